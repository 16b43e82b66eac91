/- Walk: bytes are read as a program (load.Decode, P25.2). Condition: at most 10^15 bytes. -/
import Derived.Test.YtbomloodllddaaaPk37
import Derived.Laws.ResultCell
namespace Go.Proofs.Ytbomloodllddaaa
open Go.RowKit
theorem secsF_lens (s : List UInt8) : ∀ (m : Nat) (p : Option Nat) (a : Int), ∀ x ∈ (secsF s m p a).1, x.2.length ≤ 8388608
  | 0, p, a => fun x h => by simp [secsF] at h
  | m + 1, p, a => by
    rw [secsF]
    split
    · intro x h; simp at h
    · split
      · intro x h; simp at h
      · split
        · intro x h; simp at h
        · dsimp only
          split
          · intro x h; simp at h
          · intro x h
            rcases List.mem_cons.1 h with rfl | h
            · exact gett_len s _
            · exact secsF_lens s m _ _ x h
theorem getP_lens (t : List UInt8) : ∀ x ∈ (getP t).1, x.2.length ≤ 8388608 := by
  unfold getP
  split
  · intro x h; simp at h
  · split
    · intro x h; simp at h
    · split
      · intro x h; simp at h
      · split
        · intro x h; simp at h
        · split
          · intro x h; simp at h
          · dsimp only
            split
            · intro x h; simp at h
            · split
              · intro x h; simp at h
              · split
                · intro x h; simp at h
                · exact secsF_lens _ _ _ _
theorem pg_one (p : Prg) (v : PV) (hv : ∃ ac nc cc at' nt ct ax nx cx as' ns cs ak nk ck av nv cv, v = ⟨.slice ac nc cc, .slice at' nt ct, .slice ax nx cx, .slice as' ns cs, .slice ak nk ck, .slice av nv cv⟩) : (pgC p v).all (·.oneCell') = true := by
  obtain ⟨ac, nc, cc, at', nt, ct, ax, nx, cx, as', ns, cs, ak, nk, ck, av, nv, cv, rfl⟩ := hv
  simp [Value.oneCell']
theorem store_pg {o : Oper} {a : Act} {w : World} {K : Act → World → Prop} {Q : Exit → Act → World → Prop} {g : Nat} {p p' : Prg} {v v' : PV} (hs : PBox w g p v) (h1 : (pgC p' v').all (·.oneCell') = true) (x y : Operand) (ho : o.op = .store 30 x y)
    (hx : a.eval x = .pointer (some ⟨g, 0, none⟩)) (hy : a.eval y = pgV p' v') (h : K (a.put o.dst undef) (w.setRow g (pgC p' v'))) : o.wp Try.prog a w K Q :=
  wp_store_row _ x y ho g (pgC p' v') hx hy 30 (pgC p v) hs info_pg rfl h1 h
theorem PBox.row {w : World} {g : Nat} {p p' : Prg} {v v' : PV} (h : PBox w g p v) : PBox (w.setRow g (pgC p' v')) g p' v' := setRow_heap _ _ _ _ _ _ h
theorem results_pg {fn : Func} {p' u : Tmp} (h : fn.results = #[.cell p' 30, .tmp u]) (tmps : Array Value) (w : World) (g : Nat) (p : Prg) (v : PV) (hp : tmps.getD p' undef = .pointer (some ⟨g, 0, none⟩)) (hs : PBox w g p v) :
    (results fn tmps).run Try.prog w = .ok (.tuple #[pgV p v, tmps.getD u undef]) w := by
  rw [results_cell_tmp h, hp]
  simp [asAddr, run_loadVar_row w g 30 30 (pgC p v) (0, 0) _ hs Try.underlying30 rfl info_pg, Result.andThen]
theorem pg_zero : (pgC prg0 pv0).all (·.oneCell') = true := pg_one _ _ ⟨none, 0, 0, none, 0, 0, none, 0, 0, none, 0, 0, none, 0, 0, none, 0, 0, rfl⟩
theorem pgO_one {B : Nat} {w : World} {v : PV} {p : Prg} (h : PrgO B w v p) : (pgC p v).all (·.oneCell') = true := by
  obtain ⟨ac, cc, at', ct, ax, cx, as', cs, ak, ck, av, cv, hv⟩ := h.at'.forms
  exact pg_one p v ⟨_, _, _, _, _, _, _, _, _, _, _, _, _, _, _, _, _, _, hv⟩
/-- Decode's memory: the result's variable, the sections, how they are read -/
structure DM (w0 : World) (rb hb : Nat) (l : List Sec) (vl : Value) (w : World) : Prop where
  bel : Below w0.heap.size w0 w
  res : PBox w rb prg0 pv0
  row : RowOf secC 2 w vl l
  how : w.heap[hb]? = some (.cells howC 80 (0, 0))
  low : w0.heap.size ≤ rb
theorem DM.step {w0 w w' : World} {rb hb : Nat} {l : List Sec} {vl : Value} (h : DM w0 rb hb l vl w) (hb' : Below w.heap.size w w') : DM w0 rb hb l vl w' :=
  ⟨h.bel.trans (hb'.mono h.bel.size), h.res.keep hb', h.row.keep hb', by rw [hb'.block hb (Array.getElem?_eq_some_iff.1 h.how).1]; exact h.how, h.low⟩
theorem how_cells {w : World} {hb : Nat} (h : w.heap[hb]? = some (.cells howC 80 (0, 0))) (k : Nat) (hk : k < 5) : w.cell? ⟨hb, k * 2, none⟩ = some (.int .u64 ((k + 1 : Nat) : Int)) ∧ w.cell? ⟨hb, k * 2 + 1, none⟩ = some (.func (.func (secFn k)) #[] #[]) := by
  rw [cell_of_row w hb _ _ _ _ h, cell_of_row w hb _ _ _ _ h]
  rcases (show k = 0 ∨ k = 1 ∨ k = 2 ∨ k = 3 ∨ k = 4 from by omega) with rfl | rfl | rfl | rfl | rfl <;> exact ⟨rfl, rfl⟩
theorem cell_lt {w : World} {b o : Nat} {v : Value} (h : w.cell? ⟨b, o, none⟩ = some v) : b < w.heap.size := by
  rcases Nat.lt_or_ge b w.heap.size with h1 | h1
  · exact h1
  · unfold World.cell? at h
    rw [show (⟨b, o, none⟩ : Addr).block = b from rfl, Array.getElem?_eq_none h1] at h
    cases h
theorem alloc_setRowD (w : World) (cs cs' : Array Value) (ty : TypeId) : (w.alloc (.cells cs ty)).setRow w.heap.size cs' = w.alloc (.cells cs' ty) := by
  unfold World.setRow World.alloc
  congr 1
  apply Array.ext_getElem?
  intro i
  rw [Array.getElem?_modify]
  by_cases h : w.heap.size = i
  · subst h; simp
  · rw [if_neg h, Array.getElem?_push, Array.getElem?_push, if_neg (by omega), if_neg (by omega)]
theorem info_how : (Try.prog.info? 80).map (·.size) = some 2 := by kernel_rfl
theorem store_how {o : Oper} {a : Act} {w : World} {K : Act → World → Prop} {Q : Exit → Act → World → Prop} (x y : Operand) (n : Int) (f : Nat) {o1 o2 : Value} (ho : o.op = .store 80 x y) (hd : o.dst = none)
    (hx : a.eval x = .pointer (some ⟨w.heap.size, 0, none⟩)) (hy : a.eval y = .agg #[.int .u64 n, .func (.func f) #[] #[]])
    (h : K a (w.alloc (.cells #[.int .u64 n, .func (.func f) #[] #[]] 80))) : o.wp Try.prog a (w.alloc (.cells #[o1, o2] 80)) K Q :=
  wp_store_row 80 x y ho w.heap.size #[.int .u64 n, .func (.func f) #[] #[]] hx hy 80 #[o1, o2] (Go.heap_alloc_new _ _) info_how rfl (by simp [Value.oneCell']) (by rw [alloc_setRowD, show a.put o.dst undef = a from by rw [hd]; rfl]; exact h)
theorem sec_enters (k : Nat) (hk : k < 5) : ∀ args w, (callFunc (secFn k) args).run Try.prog w = .ok (.enter (secFn k) args) w := by
  rcases (show k = 0 ∨ k = 1 ∨ k = 2 ∨ k = 3 ∨ k = 4 from by omega) with rfl | rfl | rfl | rfl | rfl
  · exact enters_of Try.func76 (by kernel_rfl) rfl
  · exact enters_of Try.func78 (by kernel_rfl) rfl
  · exact enters_of Try.func80 (by kernel_rfl) rfl
  · exact enters_of Try.func83 (by kernel_rfl) rfl
  · exact enters_of Try.func85 (by kernel_rfl) rfl
theorem dec_bad {R : Prg × Int} {e : Int} {w w1 : World} {rb : Nat} (h : R = (prg0, e)) (hB : Below w.heap.size w w1) (hrw : w.heap.size ≤ rb) :
    ∃ v, Ending.returned (.tuple #[pgV prg0 pv0, .int .i64 e]) = Ending.returned (.tuple #[pgV R.1 v, .int .i64 R.2]) ∧ PrgO w.heap.size (w1.setRow rb (pgC prg0 pv0)) v R.1 ∧ Below w.heap.size w (w1.setRow rb (pgC prg0 pv0)) := by
  subst h
  exact ⟨pv0, rfl, prgO_zero _ _, Below.row hB hrw _⟩
set_option maxRecDepth 100000 in
set_option maxHeartbeats 2000000 in
theorem load_Decode (t : List UInt8) (ht : t.length ≤ 1000000000000000) (w : World) :
    Calls Try.prog 13 #[.string ⟨t.toArray⟩] w fun e w' => ∃ v, e = .returned (.tuple #[pgV (decI t).1 v, .int .i64 (decI t).2]) ∧ PrgO w.heap.size w' v (decI t).1 ∧ Below w.heap.size w w' := by
  have HL := Lib.hid (getP_lens t)
  have HD : Hid (decI t = if (getP t).2 ≠ 0 then (prg0, (getP t).2) else decS (getP t).1) := Lib.hid rfl
  have Hc := Lib.hid (pack_Get t ht)
  generalize getP t = G at HL HD Hc
  obtain ⟨l, e0⟩ := G
  dsimp only at HL HD Hc
  obtain ⟨R, hR⟩ : ∃ R, R = decI t := ⟨_, rfl⟩
  rw [← hR] at HD ⊢
  obtain ⟨rb, hrb⟩ : ∃ b, b = w.heap.size := ⟨_, rfl⟩
  have HB0 : Hid (PBox (w.alloc (.cells (pgC prg0 pv0) 30)) rb prg0 pv0) := Lib.hid (by rw [hrb]; exact PBox.new _ _ _)
  have Hb0 : Hid (Below w.heap.size w (w.alloc (.cells (pgC prg0 pv0) 30))) := Lib.hid ((Below.refl _ _).alloc (Nat.le_refl _) _)
  have hrw : w.heap.size ≤ rb := by omega
  clear hR
  go_enter Try.func13, Try.ntmps13
  repeat' (first | go_values | go_skip | go_guarded | go_step | go_upon)
  rw [show (#[.int .i64 0, .int .i64 0, .int .i64 0, .int .i64 0, .slice none 0 0, .slice none 0 0, .slice none 0 0, .slice none 0 0, .slice none 0 0, .slice none 0 0] : Array Value) = pgC prg0 pv0 from rfl, ← hrb]
  clear hrb
  refine Calls.mono (Hc.out _) ?_
  rintro _ w1 ⟨vl, rfl, hrow, hb1⟩
  dsimp only
  have HB1 := Lib.hid (HB0.out.keep hb1)
  have Hb1 := Lib.hid (Hb0.out.trans (hb1.mono Hb0.out.size))
  have Hrow := Lib.hid hrow
  clear HB0 Hb0 hb1 hrow Hc
  by_cases h0 : e0 = 0
  rotate_left
  · have hne : (e0 != 0) = true := by rw [bne_iff_ne]; exact h0
    rw [if_pos h0] at HD
    clear h0
    repeat' (first | (with_reducible refine store_pg HB1.out (p' := prg0) (v' := pv0) pg_zero _ _ rfl rfl rfl ?_) | go_values | go_skip | go_guarded | go_step | go_upon)
    refine bodyPost_ret (results_pg rfl _ _ rb prg0 pv0 rfl HB1.out.row) rfl ?_
    exact dec_bad HD.out Hb1.out hrw
  subst h0
  rw [if_neg (by simp)] at HD
  obtain ⟨al, cl, hvl, _, _⟩ := Hrow.out.slice
  subst hvl
  repeat' (first | go_values | go_skip | go_guarded | go_step | go_upon)
  refine Calls.mono (load_sections _) ?_
  rintro _ w2 ⟨rfl, hh2, hb2⟩
  dsimp only
  have HM := Lib.hid (DM.mk (rb := rb) (Hb1.out.trans (hb2.mono Hb1.out.size)) (HB1.out.keep hb2) (Hrow.out.keep hb2) hh2 hrw)
  obtain ⟨hb, hhb⟩ : ∃ b, b = w1.heap.size := ⟨_, rfl⟩
  rw [← hhb] at HM ⊢
  clear hh2 hb2 HB1 Hb1 Hrow hhb
  by_cases h5 : l.length = 5
  rotate_left
  · have hK : kindsOk l = false := by unfold kindsOk; rw [decide_eq_false h5, Bool.false_and]
    have HD2 : Hid (R = (prg0, 21)) := Lib.hid (by rw [HD.out]; unfold decS; rw [if_pos hK])
    have hne : ((l.length : Int) != 5) = true := by rw [bne_iff_ne]; omega
    have HB1 := HM.out.res
    clear h5
    repeat' (first | (with_reducible refine store_pg HB1 (p' := prg0) (v' := pv0) pg_zero _ _ rfl rfl rfl ?_) | go_values | go_skip | go_guarded | go_step | go_upon)
    refine bodyPost_ret (results_pg rfl _ _ rb prg0 pv0 rfl HB1.row) rfl ?_
    exact dec_bad HD2.out HM.out.bel hrw
  have hrow := HM.out.row
  obtain ⟨al', cl', hvl, _, _, hcell⟩ := hrow.open secC_len
  simp only [Value.slice.injEq] at hvl
  obtain ⟨rfl, _, rfl⟩ := hvl
  rcases hcell with hcell | ⟨lb, lo, rfl, hlb, hcell⟩
  · omega
  have Hcell : Hid (∀ k, k < 5 → w2.cell? ⟨lb, lo + k * 2, none⟩ = some (.int .u64 (((l.getD k (0, [])).1 : Nat) : Int)) ∧ w2.cell? ⟨lb, lo + (k * 2 + 1), none⟩ = some (.string ⟨(bodyS l k).toArray⟩) ∧ (bodyS l k).length ≤ 8388608) := Lib.hid fun k hk => by
    have hx : l[k]? = some (l.getD k (0, [])) := by rw [List.getD_eq_getElem?_getD, List.getElem?_eq_getElem (by omega)]; rfl
    refine ⟨hcell k _ 0 hx (by decide), hcell k _ 1 hx (by decide), HL.out _ (List.mem_of_getElem? hx)⟩
  rw [h5]
  have H5 := Lib.hid h5
  clear hcell hrow h5
  obtain ⟨wA, hwA⟩ : ∃ x, x = w2 := ⟨_, rfl⟩
  have HMA : Hid (DM w rb hb l (.slice (some ⟨lb, lo, none⟩) 5 cl) wA) := Lib.hid (by rw [hwA, ← H5.out]; exact HM.out)
  have Hst : Hid (Below wA.heap.size wA w2) := Lib.hid (by rw [hwA]; exact Below.refl _ _)
  rw [← hwA] at Hcell hlb
  clear hwA HM
  repeat' (first | go_values | go_skip | go_guarded | go_step | go_upon)
  go_loopw [32] (fun s32 wr => ∃ k : Nat, s32 = .int .i64 k ∧ k ≤ 5 ∧ Hid (∀ j, j < k → (l.getD j (0, [])).1 = j + 1) ∧ Hid (Below wA.heap.size wA wr)) (fun s32 _ => 5 - (intOf s32).toNat)
  case atStart => exact ⟨0, rfl, Nat.zero_le _, Lib.hid (fun j hj => by omega), Hst⟩
  case round =>
    clear Hst
    obtain ⟨k, rfl, hk, Hk, Hb⟩ := hrel
    by_cases hlt : k < 5
    · have M := Lib.hid (HMA.out.step Hb.out)
      obtain ⟨d0, d1, _⟩ := Hcell.out k hlt
      obtain ⟨m0, m1⟩ := how_cells M.out.how k hlt
      rw [← Hb.out.cell (show lb < wA.heap.size from hlb)] at d0 d1
      obtain ⟨n, hn⟩ : ∃ n : Int, n = ((k + 1 : Nat) : Int) := ⟨_, rfl⟩
      rw [← hn] at m0
      have hk1 : (l.getD k (0, [])).1 = k + 1 ∨ ¬ (l.getD k (0, [])).1 = k + 1 := Classical.em _
      have Hkd : Hid (∀ x, x = (l.getD k (0, [])).1 → x = k + 1 → ∀ j, j < k + 1 → (l.getD j (0, [])).1 = j + 1) := Lib.hid fun x e1 e2 j hj => by
        rcases Nat.lt_or_ge j k with h | h
        · exact Hk.out j h
        · obtain rfl : j = k := by omega
          omega
      have Hbad : Hid (∀ x, x = (l.getD k (0, [])).1 → ¬ x = k + 1 → R = (prg0, 21)) := Lib.hid fun x e1 e2 => by
        have hK : kindsOk l = false := by
          unfold kindsOk
          rw [Bool.and_eq_false_iff]
          right
          rw [List.all_eq_false]
          exact ⟨k, List.mem_range.2 hlt, fun h => e2 (e1.trans (of_decide_eq_true h))⟩
        rw [HD.out]; unfold decS; rw [if_pos hK]
      obtain ⟨kd, hkd⟩ : ∃ x, x = (l.getD k (0, [])).1 := ⟨_, rfl⟩
      rw [← hkd] at d0 hk1
      have H1 := Lib.hid (Hkd.out kd hkd)
      have H2 := Lib.hid (Hbad.out kd hkd)
      have Hn := Lib.hid hn
      clear Hkd Hbad hkd hn
      repeat' (go_not_at_region 10; first | (with_reducible refine store_how _ _ _ _ rfl rfl rfl rfl ?_) | go_values | go_skip | go_guarded | go_step | go_upon)
      refine gen_wd (fun W => Below wr.heap.size wr W ∧ W.cell? ⟨wr.heap.size, 0, none⟩ = some (.int .u64 n)) ⟨(Below.refl _ _).alloc (Nat.le_refl _) _, by rw [cell_of_row _ wr.heap.size 0 _ _ _ (Go.heap_alloc_new _ _)]; rfl⟩ ?_
      rintro wx ⟨hbx, hcx⟩
      have hlr : wr.heap.size < wx.heap.size := cell_lt hcx
      have q0 : ∀ nq : WB wx, nq.1.cell? ⟨wr.heap.size, 0, none⟩ = some (.int .u64 n) := fun nq => by rw [nq.2.cell hlr]; exact hcx
      have q1 : ∀ nq : WB wx, nq.1.cell? ⟨lb, lo + k * 2, none⟩ = some (.int .u64 (kd : Int)) := fun nq => by
        have hl1 : lb < wr.heap.size := Nat.lt_of_lt_of_le hlb Hb.out.size
        rw [nq.2.cell (Nat.lt_of_lt_of_le hl1 hbx.size), hbx.cell hl1]; exact d0
      have MX := Lib.hid (M.out.step hbx)
      have Hbx := Lib.hid (Hb.out.trans (hbx.mono Hb.out.size))
      clear hbx hcx M Hb hlr d0 d1 m0 m1
      refine wp_region_wb (by kernel_rfl) (by kernel_rfl) wx (Below.refl _ _) ?_
      repeat (go_big_quiet_step ((fail)))
      refine wpQuiet_nil ?_
      rintro _ ⟨nq, rfl⟩
      have hnq := nq.2
      have MQ := Lib.hid (MX.out.step hnq)
      have HbQ := Lib.hid (Hbx.out.trans (hnq.mono Hbx.out.size))
      clear q0 q1 MX Hbx hnq
      have hn := Hn.out
      rcases hk1 with hk1 | hk1
      · have e : ((kd : Int) != n) = false := by rw [bne_eq_false_iff_eq]; omega
        have H3 := Lib.hid (H1.out hk1)
        clear H1 H2 hk1 hn
        repeat' (first | go_values | go_skip | go_guarded | go_step | go_upon)
        go_roundw
        case rel => exact ⟨k + 1, by go_num, by omega, H3, HbQ⟩
        case measure => simp [intOf]; omega
      · have e : ((kd : Int) != n) = true := by rw [bne_iff_ne]; omega
        have HB1 := MQ.out.res
        clear hn
        repeat' (first | (with_reducible refine store_pg HB1 (p' := prg0) (v' := pv0) pg_zero _ _ rfl rfl rfl ?_) | go_values | go_skip | go_guarded | go_step | go_upon)
        refine bodyPost_ret (results_pg rfl _ _ rb prg0 pv0 rfl HB1.row) rfl ?_
        exact dec_bad (H2.out hk1) MQ.out.bel hrw
    · obtain rfl : k = 5 := by omega
      have M := Lib.hid (HMA.out.step Hb.out)
      have HK : Hid (kindsOk l = true) := Lib.hid (by
        unfold kindsOk
        rw [Bool.and_eq_true]
        refine ⟨by simpa using H5.out, ?_⟩
        rw [List.all_eq_true]
        intro j hj
        simpa using Hk.out j (by simpa using hj))
      have HD3 : Hid (R = if errTo l 5 ≠ 0 then (prg0, errTo l 5) else if writI (prgTo l 5) ≠ 0 then (prg0, writI (prgTo l 5)) else (prgTo l 5, 0)) := Lib.hid (by rw [HD.out]; unfold decS; rw [if_neg (by rw [HK.out]; simp)])
      clear hlt hk Hk HD HK HMA
      obtain ⟨wE, hwE⟩ : ∃ x : World, x = wr := ⟨_, rfl⟩
      subst hwE
      have e49 : ∀ (W : World) (o : Obj), Below wE.heap.size wE (wE.alloc o) := fun _ o => (Below.refl _ _).alloc (Nat.le_refl _) _
      obtain ⟨gp, hgp⟩ : ∃ b, b = wE.heap.size := ⟨_, rfl⟩
      have HG0 : Hid (PBox (wE.alloc (.cells (pgC prg0 pv0) 30)) gp (prgTo l 0) pv0) := Lib.hid (by rw [hgp]; exact PBox.new _ _ _)
      have HO0 : Hid (PrgO (gp + 1) (wE.alloc (.cells (pgC prg0 pv0) 30)) pv0 (prgTo l 0)) := Lib.hid (prgO_zero _ _)
      have HB0 : Hid (Below gp wE (wE.alloc (.cells (pgC prg0 pv0) 30))) := Lib.hid (by rw [hgp]; exact e49 wE _)
      have HN0 : Hid (NilK 0 (prgTo l 0) pv0) := Lib.hid ⟨fun _ => ⟨rfl, rfl⟩, fun _ => ⟨rfl, rfl⟩, fun _ => ⟨rfl, rfl⟩⟩
      have hAr : wA.heap.size ≤ gp := by rw [hgp]; exact Hb.out.size
      have hbc : ∀ k, k < 5 → (wE.cell? ⟨lb, lo + (k * 2 + 1), none⟩ = some (.string ⟨(bodyS l k).toArray⟩)) ∧ (bodyS l k).length ≤ 8388608 := fun k hk => by
        obtain ⟨_, d1, d2⟩ := Hcell.out k hk
        rw [Hb.out.cell (show lb < wA.heap.size from hlb)]
        exact ⟨d1, d2⟩
      have Hbc := Lib.hid hbc
      clear hbc Hb Hcell e49
      repeat' (first | go_values | go_skip | go_guarded | go_step | go_upon)
      rw [show (#[.int .i64 0, .int .i64 0, .int .i64 0, .int .i64 0, .slice none 0 0, .slice none 0 0, .slice none 0 0, .slice none 0 0, .slice none 0 0, .slice none 0 0] : Array Value) = pgC prg0 pv0 from rfl, ← hgp]
      have Hgp := Lib.hid hgp
      clear hgp
      go_loopw [49] (fun s49 wr => ∃ (k : Nat) (v : PV), s49 = .int .i64 k ∧ k ≤ 5 ∧ Hid (errTo l k = 0) ∧ Hid (PBox wr gp (prgTo l k) v) ∧ Hid (PrgO (gp + 1) wr v (prgTo l k)) ∧ Hid (NilK k (prgTo l k) v) ∧ Hid (Below gp wE wr)) (fun s49 _ => 5 - (intOf s49).toNat)
      case atStart => exact ⟨0, _, rfl, Nat.zero_le _, Lib.hid rfl, HG0, HO0, HN0, HB0⟩
      case round =>
        clear HG0 HO0 HN0 HB0
        obtain ⟨k, v, rfl, hk, HE, HG, HO, HN, HB⟩ := hrel
        by_cases hlt : k < 5
        · obtain ⟨hd1, hd2⟩ := Hbc.out k hlt
          have hgl : gp < wr.heap.size := HG.out.lt
          have hgE := Hgp.out
          obtain ⟨m0, m1⟩ := how_cells M.out.how k hlt
          have hhE : hb < wE.heap.size := (Array.getElem?_eq_some_iff.1 M.out.how).1
          rw [← HB.out.cell (show hb < gp from by omega)] at m0 m1
          obtain ⟨s, hs⟩ : ∃ s, s = bodyS l k := ⟨_, rfl⟩
          rw [← hs] at hd1 hd2
          have hlbE : lb < gp := by omega
          obtain ⟨n, hn⟩ : ∃ n : Int, n = ((k + 1 : Nat) : Int) := ⟨_, rfl⟩
          rw [← hn] at m0
          have Hs := Lib.hid hs
          clear hs hn hgE
          repeat' (go_not_at_region 17; first | (with_reducible refine store_how _ _ _ _ rfl rfl rfl rfl ?_) | go_values | go_skip | go_guarded | go_step | go_upon)
          refine gen_wd (fun W => Below wr.heap.size wr W ∧ W.cell? ⟨wr.heap.size, 1, none⟩ = some (.func (.func (secFn k)) #[] #[])) ⟨(Below.refl _ _).alloc (Nat.le_refl _) _, by rw [cell_of_row _ wr.heap.size 1 _ _ _ (Go.heap_alloc_new _ _)]; rfl⟩ ?_
          rintro wx ⟨hbx, hcx⟩
          have HGx := Lib.hid (HG.out.keep hbx)
          have HOx := Lib.hid (HO.out.keep hbx)
          have HBx : Hid (Below gp wE wx) := Lib.hid (HB.out.trans (hbx.mono (by omega)))
          have dx : wx.cell? ⟨lb, lo + k * 2 + 1, none⟩ = some (.string ⟨s.toArray⟩) := by rw [HBx.out.cell hlbE, Nat.add_assoc]; exact hd1
          have hgx : gp < wx.heap.size := HGx.out.lt
          have hlr : wr.heap.size < wx.heap.size := cell_lt hcx
          clear m0 m1 hbx hd1 HG HO HB
          repeat' (go_not_at_region 18; first | go_values | go_skip | go_guarded | go_step | go_upon)
          obtain ⟨g, hg⟩ : ∃ b, b = wx.heap.size := ⟨_, rfl⟩
          refine gen_wd (fun W => Below g wx W ∧ RdAt W g s 0 0 false ∧ W.cell? ⟨wr.heap.size, 1, none⟩ = some (.func (.func (secFn k)) #[] #[])) ⟨by rw [hg]; exact (Below.refl _ _).alloc (Nat.le_refl _) _, by rw [hg]; exact RdAt.new _ _, by rw [((Below.refl wx.heap.size wx).alloc (Nat.le_refl _) _).cell hlr]; exact hcx⟩ ?_
          rintro wy ⟨hby, hry, hcy⟩
          have HRy := hry.lt
          rw [← hg] at hgx hlr ⊢
          have HGy : Hid (PBox wy gp (prgTo l k) v) := Lib.hid (by unfold PBox; rw [hby.block gp hgx]; exact HGx.out)
          have HBy : Hid (Below gp wE wy) := Lib.hid (HBx.out.trans (hby.mono (by omega)))
          have hgwx : g = wx.heap.size := hg
          have hsep : ∀ w', Else2 g gp wy w' → PrgO (gp + 1) w' v (prgTo l k) := fun w' he => HOx.out.keepF fun q h1 h2 => by
            rw [he.block q (by have := hby.size; omega) (by omega) (by omega), hby.block q (by omega)]
          have Hc := Lib.hid (sec_any k hlt g gp hgx s (by omega) (prgTo l k) v wy HGy.out hry (hsep wy Else2.refl) HN.out hsep)
          clear HGx HOx HBx hcx dx hg hsep HGy hry HN
          have hgy : g < wy.heap.size := HRy
          clear hby
          have Hgw := Lib.hid hgwx
          clear hgwx
          have eg := sec_enters k hlt
          have HEs : Hid (errTo l (k + 1) = secE k s) := Lib.hid (by show (if errTo l k ≠ 0 then errTo l k else secE k (bodyS l k)) = _; rw [if_neg (by rw [HE.out]; simp), Hs.out])
          have HPs : Hid (prgTo l (k + 1) = secP k s (prgTo l k)) := Lib.hid (by show secP k (bodyS l k) (prgTo l k) = _; rw [Hs.out])
          have Hstop : Hid (secE k s ≠ 0 → R = (prg0, secE k s)) := Lib.hid fun h => by
            have h1 : errTo l 5 = secE k s := by rw [errTo_stop (k := k + 1) (n := 5) (by rw [HEs.out]; exact h) (by omega), HEs.out]
            rw [HD3.out, if_pos (by rw [h1]; exact h), h1]
          generalize secFn k = f at *
          repeat' (first | (go_at_fn f; refine Hid.out ?_) | go_values | go_skip | go_guarded | go_step | go_upon)
          refine Lib.hid ?_
          refine Calls.mono Hc.out ?_
          rintro _ w3 ⟨rfl, a, b, wd, hr3, herr, he3, p', v', hp', himp⟩
          dsimp only
          have HB3 : Hid (Below gp wE w3) := Lib.hid (HBy.out.trans (he3.below (Nat.le_of_lt hgx) (Nat.le_refl _) (by omega)))
          have M3 : Hid (DM w rb hb l (.slice (some ⟨lb, lo, none⟩) 5 cl) w3) := Lib.hid (M.out.step (by rw [← Hgp.out]; exact HB3.out))
          have Hr3 := Lib.hid hr3
          have Hp3 := Lib.hid hp'
          have Himp := Lib.hid himp
          have Herr := Lib.hid herr
          clear hr3 hp' himp herr he3 Hc HBy hcy hd2 hgy eg
          generalize secE k s = E at *
          have c2 := Hr3.out.c2
          by_cases hb0 : b = 0
          rotate_left
          · have e1 : (b != 0) = true := by rw [bne_iff_ne]; exact hb0
            have hEb : E = b := by rw [← Herr.out]; unfold errS; rw [if_pos hb0]
            have HR2 : Hid (R = (prg0, b)) := Lib.hid (by rw [← hEb]; exact Hstop.out (by rw [hEb]; exact hb0))
            clear hEb hb0
            repeat' (go_not_at_region 20; first | go_values | go_skip | go_guarded | go_step | go_upon)
            have q0 : ∀ nq : GW (fun W => RdAt W g s a b wd), nq.1.cell? ⟨g, 2, none⟩ = some (.int .i64 b) := fun nq => RdAt.c2 nq.2
            refine wp_region_anyG (by kernel_rfl) (fun W => RdAt W g s a b wd) ?_
            refine tkC 0 rfl ?_
            refine tkC 1 rfl ?_
            refine tkC 2 rfl ?_
            refine tkC 3 rfl ?_
            refine tkC 4 rfl ?_
            clear q0
            refine genG (fun W => Below w3.heap.size w3 W) ((Below.refl _ _).drew) ?_
            intro W0 hbW
            have hbW' : Below w.heap.size w W0 := M3.out.bel.trans (hbW.mono M3.out.bel.size)
            refine wpAnyC_ready (CG.of (Hr3.out.keep hbW)) (rs := [5]) (by kernel_rfl) (by simp) ?_
            refine (AllReadyC.cons rfl (fun K hK => ?_) AllReadyC.nil)
            refine step_of rfl (store_pg (M3.out.res.keep hbW) (p' := prg0) (v' := pv0) pg_zero _ _ rfl rfl rfl ?_)
            refine hK _ _ ?_
            clear hK K
            refine tkC 6 rfl ?_
            have hgr : g ≠ rb := by
              intro e
              have h1 := Hr3.out
              have h2 := M3.out.res
              unfold RdAt at h1
              unfold PBox at h2
              rw [e, h2] at h1
              simp at h1
            refine wpAnyC_done (by kernel_rfl) (CG.of (show RdAt _ g s a b wd from by unfold RdAt; rw [setRow_other _ _ _ _ hgr]; exact Hr3.out.keep hbW)) (by go_simp <;> with_reducible rfl) ?_
            repeat' (first | go_values | go_skip | go_guarded | go_step | go_upon)
            refine bodyPost_ret (results_pg rfl _ _ rb prg0 pv0 rfl (M3.out.res.keep hbW).row) rfl ?_
            exact dec_bad HR2.out hbW' hrw
          · subst hb0
            have q1 : ∀ nq : WB w3, nq.1.cell? ⟨g, 1, none⟩ = some (.int .i64 a) := fun nq => (Hr3.out.keep nq.2).c1
            have q2 : ∀ nq : WB w3, nq.1.cell? ⟨g, 0, none⟩ = some (.string ⟨s.toArray⟩) := fun nq => (Hr3.out.keep nq.2).c0
            have q3 : ∀ nq : WB w3, nq.1.cell? ⟨g, 3, none⟩ = some (.bool wd) := fun nq => (Hr3.out.keep nq.2).c3
            have hsz := arr_size s
            by_cases hal : a = s.length ∧ wd = false
            · obtain ⟨ha1, ha2⟩ := hal
              have hE0 : Hid (E = 0) := Lib.hid (by rw [← Herr.out]; unfold errS; simp [ha1, ha2])
              have e2 : (a != (s.length : Int)) = false := by rw [bne_eq_false_iff_eq]; exact ha1
              subst ha2
              clear ha1
              repeat' (go_not_at_region 21; first | go_values | go_skip | go_guarded | go_step | go_upon)
              refine wp_region_wb (by kernel_rfl) (by kernel_rfl) w3 (Below.refl _ _) ?_
              repeat (go_big_quiet_step ((fail)))
              refine wpQuiet_nil ?_
              rintro _ ⟨nq, rfl⟩
              have hnq := nq.2
              clear q1 q2 q3 e2
              obtain ⟨i1, i2, i3⟩ := Himp.out hE0.out
              rw [← HPs.out] at i1
              have J1 : Hid (PBox nq.1 gp (prgTo l (k + 1)) v') := Lib.hid (by rw [← i1]; exact Hp3.out.keep hnq)
              have J2 : Hid (PrgO (gp + 1) nq.1 v' (prgTo l (k + 1))) := Lib.hid (by rw [← i1]; exact i2.keep hnq)
              have J3 : Hid (NilK (k + 1) (prgTo l (k + 1)) v') := Lib.hid (by rw [← i1]; exact i3)
              have J4 : Hid (Below gp wE nq.1) := Lib.hid (HB3.out.trans (hnq.mono (by have := Hp3.out.lt; omega)))
              have J5 : Hid (errTo l (k + 1) = 0) := Lib.hid (by rw [HEs.out, hE0.out])
              clear i1 i2 i3 hnq
              repeat' (first | go_values | go_skip | go_guarded | go_step | go_upon)
              go_roundw
              case rel => exact ⟨k + 1, v', by go_num, by omega, J5, J1, J2, J3, J4⟩
              case measure => simp [intOf]; omega
            · have hE1 : Hid (E = 21) := Lib.hid (by rw [← Herr.out]; unfold errS; rw [if_neg (by simp), if_pos (by cases wd <;> simp_all)])
              have HR2 : Hid (R = (prg0, 21)) := Lib.hid (by rw [Hstop.out (by rw [hE1.out]; decide), hE1.out])
              have hcs : ((a != (s.length : Int)) = true) ∨ ((a != (s.length : Int)) = false ∧ wd = true) := by
                by_cases h1 : a = s.length
                · right
                  refine ⟨by rw [bne_eq_false_iff_eq]; exact h1, ?_⟩
                  cases wd
                  · exact absurd ⟨h1, rfl⟩ hal
                  · rfl
                · left; rw [bne_iff_ne]; exact h1
              clear hal
              rcases hcs with e2 | ⟨e2, rfl⟩
              all_goals
                repeat' (go_not_at_region 21; first | go_values | go_skip | go_guarded | go_step | go_upon)
                refine wp_region_wb (by kernel_rfl) (by kernel_rfl) w3 (Below.refl _ _) ?_
                repeat (go_big_quiet_step ((fail)))
                refine wpQuiet_nil ?_
                rintro _ ⟨nq, rfl⟩
                have hnq := nq.2
                have hres := M3.out.res.keep hnq
                have hbel : Below w.heap.size w nq.1 := M3.out.bel.trans (hnq.mono M3.out.bel.size)
                clear q1 q2 q3 e2 hnq
                repeat' (first | (with_reducible refine store_pg hres (p' := prg0) (v' := pv0) pg_zero _ _ rfl rfl rfl ?_) | go_values | go_skip | go_guarded | go_step | go_upon)
                refine bodyPost_ret (results_pg rfl _ _ rb prg0 pv0 rfl hres.row) rfl ?_
                exact dec_bad HR2.out hbel hrw
        · obtain rfl : k = 5 := by omega
          rw [if_neg (by rw [HE.out]; simp)] at HD3
          have M3 : Hid (DM w rb hb l (.slice (some ⟨lb, lo, none⟩) 5 cl) wr) := Lib.hid (M.out.step (by rw [← Hgp.out]; exact HB.out))
          have Hw := Lib.hid fun W (hW : PrgAt W v (prgTo l 5)) => load_writable (prgTo l 5) v W hW
          generalize prgTo l 5 = P at *
          generalize writI P = e at HD3 Hw
          repeat' (first | (with_reducible refine load_pg HG.out _ rfl rfl ?_) | go_values | go_skip | go_guarded | go_step | go_upon)
          refine Calls.mono (Hw.out _ HO.out.at') ?_
          rintro _ w5 ⟨rfl, hb5⟩
          dsimp only
          have M5 := Lib.hid (M3.out.step hb5)
          have G5 := Lib.hid (HG.out.keep hb5)
          have O5 := Lib.hid (HO.out.keep hb5)
          have hrg : rb < gp := by
            have h1 := M.out.res.lt
            have h2 := Hgp.out
            omega
          clear M3 HG HO hb5 Hw HB M
          by_cases hz : e = 0
          rotate_left
          · have e1 : (e != 0) = true := by rw [bne_iff_ne]; exact hz
            rw [if_pos hz] at HD3
            clear hz
            repeat' (first | (with_reducible refine store_pg M5.out.res (p' := prg0) (v' := pv0) pg_zero _ _ rfl rfl rfl ?_) | go_values | go_skip | go_guarded | go_step | go_upon)
            refine bodyPost_ret (results_pg rfl _ _ rb prg0 pv0 rfl M5.out.res.row) rfl ?_
            exact dec_bad HD3.out M5.out.bel hrw
          · subst hz
            rw [if_neg (by simp)] at HD3
            have hone := pgO_one O5.out
            repeat' (first | (with_reducible refine load_pg G5.out _ rfl rfl ?_) | (with_reducible refine store_pg M5.out.res (p' := P) (v' := v) hone _ _ rfl rfl rfl ?_) | go_values | go_skip | go_guarded | go_step | go_upon)
            refine bodyPost_ret (results_pg rfl _ _ rb P v rfl M5.out.res.row) rfl ?_
            exact ⟨v, by rw [HD3.out]; rfl, by rw [HD3.out]; exact (O5.out.keepF fun q h1 h2 => setRow_other _ _ _ _ (by omega)).base (by omega), Below.row M5.out.bel hrw _⟩
end Go.Proofs.Ytbomloodllddaaa
/- Walk: bytes are read as a program that can't fault (load.Load, P25.3). Condition: at most 10^15 bytes. -/
namespace Go.Proofs.Ytbomloodllddaaa
open Go.RowKit
/-- what is loaded of any bytes -/
noncomputable def loadI (t : List UInt8) : Prg × Int := if (decI t).2 ≠ 0 then (prg0, (decI t).2) else if (checkI (decI t).1).1 ≠ 0 then (prg0, (checkI (decI t).1).1) else ((decI t).1, 0)
theorem store_new_pg {o : Oper} {a : Act} {w : World} {K : Act → World → Prop} {Q : Exit → Act → World → Prop} (x y : Operand) {old : Array Value} {p : Prg} {v : PV} (ho : o.op = .store 30 x y) (hd : o.dst = none)
    (hx : a.eval x = .pointer (some ⟨w.heap.size, 0, none⟩)) (hy : a.eval y = pgV p v) (hold : old.size = 10) (h1 : (pgC p v).all (·.oneCell') = true)
    (h : K a (w.alloc (.cells (pgC p v) 30))) : o.wp Try.prog a (w.alloc (.cells old 30)) K Q :=
  wp_store_row 30 x y ho w.heap.size (pgC p v) hx hy 30 old (Go.heap_alloc_new _ _) info_pg hold h1 (by rw [alloc_setRowD, show a.put o.dst undef = a from by rw [hd]; rfl]; exact h)
theorem pgA_one {w : World} {v : PV} {p : Prg} (h : PrgAt w v p) : (pgC p v).all (·.oneCell') = true := by
  obtain ⟨ac, cc, at', ct, ax, cx, as', cs, ak, ck, av, cv, hv⟩ := h.forms
  exact pg_one p v ⟨_, _, _, _, _, _, _, _, _, _, _, _, _, _, _, _, _, _, hv⟩
set_option maxRecDepth 100000 in
set_option maxHeartbeats 2000000 in
theorem load_LoadD (t : List UInt8) (D : Prg × Int) (hD : ∀ w, Calls Try.prog 13 #[.string ⟨t.toArray⟩] w fun e w' => ∃ v, e = .returned (.tuple #[pgV D.1 v, .int .i64 D.2]) ∧ PrgO w.heap.size w' v D.1 ∧ Below w.heap.size w w') (R : Prg × Int)
    (hR : R = if D.2 ≠ 0 then (prg0, D.2) else if (checkI D.1).1 ≠ 0 then (prg0, (checkI D.1).1) else (D.1, 0)) (w : World) :
    Calls Try.prog 18 #[.string ⟨t.toArray⟩] w fun e w' => ∃ v, e = .returned (.tuple #[pgV R.1 v, .int .i64 R.2]) ∧ PrgO w.heap.size w' v R.1 ∧ Below w.heap.size w w' := by
  have HL := Lib.hid hR
  have Hc := Lib.hid hD
  clear hR hD
  obtain ⟨p, e0⟩ := D
  dsimp only at HL Hc
  obtain ⟨rb, hrb⟩ : ∃ b, b = w.heap.size := ⟨_, rfl⟩
  have HB0 : Hid (PBox (w.alloc (.cells (pgC prg0 pv0) 30)) rb prg0 pv0) := Lib.hid (by rw [hrb]; exact PBox.new _ _ _)
  have Hb0 : Hid (Below w.heap.size w (w.alloc (.cells (pgC prg0 pv0) 30))) := Lib.hid ((Below.refl _ _).alloc (Nat.le_refl _) _)
  have hrw : w.heap.size ≤ rb := by omega
  go_enter Try.func18, Try.ntmps18
  repeat' (first | go_values | go_skip | go_guarded | go_step | go_upon)
  rw [show (#[.int .i64 0, .int .i64 0, .int .i64 0, .int .i64 0, .slice none 0 0, .slice none 0 0, .slice none 0 0, .slice none 0 0, .slice none 0 0, .slice none 0 0] : Array Value) = pgC prg0 pv0 from rfl, ← hrb]
  clear hrb
  refine Calls.mono (Hc.out _) ?_
  rintro _ w1 ⟨v, rfl, hp, hb1⟩
  dsimp only
  have HB1 := Lib.hid (HB0.out.keep hb1)
  have Hb1 := Lib.hid (Hb0.out.trans (hb1.mono Hb0.out.size))
  have HP1 := Lib.hid hp
  have hone := pgA_one hp.at'
  have hrl : rb < (w.alloc (.cells (pgC prg0 pv0) 30)).heap.size := HB0.out.lt
  clear HB0 Hb0 hb1 hp Hc
  repeat' (go_not_at_region 2; first | (with_reducible refine store_new_pg _ _ rfl rfl rfl rfl rfl hone ?_) | go_values | go_skip | go_guarded | go_step | go_upon)
  have hb2 : Below w1.heap.size w1 (w1.alloc (.cells (pgC p v) 30)) := (Below.refl _ _).alloc (Nat.le_refl _) _
  refine gen_wd (fun W => PBox W w1.heap.size p v ∧ PrgO (rb + 1) W v p ∧ PBox W rb prg0 pv0 ∧ Below w.heap.size w W) ⟨PBox.new _ _ _, (HP1.out.base (by omega)).keep hb2, HB1.out.keep hb2, Hb1.out.trans (hb2.mono Hb1.out.size)⟩ ?_
  clear HP1 HB1 Hb1 hb2 hrl
  rintro w2 ⟨hq, hp, hr, hb⟩
  have HQ := Lib.hid hq
  have HP := Lib.hid hp
  have HR := Lib.hid hr
  have HBB := Lib.hid hb
  clear hq hp hr hb
  by_cases h0 : e0 = 0
  rotate_left
  · have e1 : (e0 != 0) = true := by rw [bne_iff_ne]; exact h0
    rw [if_pos h0] at HL
    clear h0
    repeat' (first | (with_reducible refine store_pg HR.out (p' := prg0) (v' := pv0) pg_zero _ _ rfl rfl rfl ?_) | go_values | go_skip | go_guarded | go_step | go_upon)
    refine bodyPost_ret (results_pg rfl _ _ rb prg0 pv0 rfl HR.out.row) rfl ?_
    exact dec_bad HL.out HBB.out hrw
  subst h0
  rw [if_neg (by simp)] at HL
  have Hk := Lib.hid (ver_Check p v w2 HP.out.at')
  generalize checkI p = c at HL Hk
  obtain ⟨c1, c2⟩ := c
  dsimp only at HL Hk
  repeat' (first | (with_reducible refine load_pg HQ.out _ rfl rfl ?_) | go_values | go_skip | go_guarded | go_step | go_upon)
  refine Calls.mono (Hk.out) ?_
  rintro _ w3 ⟨rfl, hb3⟩
  dsimp only
  have HQ3 := Lib.hid (HQ.out.keep hb3)
  have HP3 := Lib.hid (HP.out.keep hb3)
  have HR3 := Lib.hid (HR.out.keep hb3)
  have HB3 := Lib.hid (HBB.out.trans (hb3.mono HBB.out.size))
  clear hb3 HQ HP HR HBB Hk
  by_cases h0 : c1 = 0
  rotate_left
  · have e1 : (c1 != 0) = true := by rw [bne_iff_ne]; exact h0
    rw [if_pos h0] at HL
    clear h0
    repeat' (first | (with_reducible refine store_pg HR3.out (p' := prg0) (v' := pv0) pg_zero _ _ rfl rfl rfl ?_) | go_values | go_skip | go_guarded | go_step | go_upon)
    refine bodyPost_ret (results_pg rfl _ _ rb prg0 pv0 rfl HR3.out.row) rfl ?_
    exact dec_bad HL.out HB3.out hrw
  subst h0
  rw [if_neg (by simp)] at HL
  repeat' (first | (with_reducible refine load_pg HQ3.out _ rfl rfl ?_) | (with_reducible refine store_pg HR3.out (p' := p) (v' := v) hone _ _ rfl rfl rfl ?_) | go_values | go_skip | go_guarded | go_step | go_upon)
  refine bodyPost_ret (results_pg rfl _ _ rb p v rfl HR3.out.row) rfl ?_
  exact ⟨v, by rw [HL.out]; rfl, by rw [HL.out]; exact (HP3.out.keepF fun q h1 h2 => setRow_other _ _ _ _ (by omega)).base (by omega), Below.row HB3.out hrw _⟩
theorem load_Load (t : List UInt8) (ht : t.length ≤ 1000000000000000) (w : World) :
    Calls Try.prog 18 #[.string ⟨t.toArray⟩] w fun e w' => ∃ v, e = .returned (.tuple #[pgV (loadI t).1 v, .int .i64 (loadI t).2]) ∧ PrgO w.heap.size w' v (loadI t).1 ∧ Below w.heap.size w w' :=
  load_LoadD t (decI t) (load_Decode t ht) (loadI t) rfl w
end Go.Proofs.Ytbomloodllddaaa
