/- Walk: an instruction's line (isa.line). Condition: the instruction may be; strconv's table is as it is laid. -/
import Derived.Test.YtpelngkhipcneaaDoorIsaPut
namespace Go.Proofs.YtpelngkhipcneaaDoor
open Go.RowKit
abbrev Tab10 (w : World) : Prop := Lib.TabIs Tryd.prog w "internal/strconv.uint64pow10" .u64 Lib.pow10Tab
theorem tab10_below {w w' : World} (h : Tab10 w) (hb : Below w.heap.size w w') : Tab10 w' := by
  have hg : Tryd.prog.globalNamed "internal/strconv.uint64pow10" = some 3 := by kernel_rfl
  unfold Tab10 Lib.TabIs World.var? at h ⊢
  rw [hg] at h ⊢
  simp only [Option.bind_some] at h ⊢
  have hlt : 3 < w.heap.size := by
    rcases Nat.lt_or_ge 3 w.heap.size with h' | h'
    · exact h'
    · rw [Array.getElem?_eq_none h'] at h; simp at h
  rw [hb.block _ hlt]; exact h
theorem below_growN {w : World} (k : Nat) (os : Array Obj) : Below w.heap.size w (Go.Sort.grow (w.drewN k) os) :=
  ⟨rfl, rfl, rfl, by simp [Go.Sort.grow, World.drewN], fun i hi => by simp [Go.Sort.grow, World.drewN, Array.getElem?_append_left hi]⟩
theorem itoa_c (n : Int) (h0 : 0 ≤ n) (h1 : n ≤ 9223372036854775807) (w : World) (hT : Tab10 w) :
    Calls Tryd.prog 35 #[.int .i64 n] w fun e w' => e = .returned (.string ⟨(Lib.itoa n).toArray⟩) ∧ Below w.heap.size w w' :=
  (Tryd.strconv_Itoa n (by omega) h1 w hT).mono fun _ _ ⟨he, k, os, hw⟩ => ⟨he, by rw [hw]; exact below_growN k os⟩
theorem two_put {w : World} {g : Nat} {a b : Value} {t : TypeId} (h : w.heap[g]? = some (.cells #[a, b] t (0, 0))) (u v : Value) : ((w.setCell ⟨g, 0, none⟩ u).setCell ⟨g, 1, none⟩ v).heap[g]? = some (.cells #[u, v] t (0, 0)) := by
  have h1 : (w.setCell ⟨g, 0, none⟩ u).heap[g]? = some (.cells #[u, b] t (0, 0)) := by rw [setCell_eq_setRow w g 0 _ _ _ u h]; exact setRow_heap _ _ _ _ _ _ h
  rw [setCell_eq_setRow _ g 1 _ _ _ v h1]; exact setRow_heap _ _ _ _ _ _ h1
/-- an instruction in the call's own variable, the table -/
structure LQ (w0 : World) (x : Nat → Int) (w : World) : Prop where
  bel : Below w0.heap.size w0 w
  ins : InsAt w w0.heap.size x
  tab : Tab10 w
theorem LQ.step {w0 w w' : World} {x : Nat → Int} (h : LQ w0 x w) (hb : Below w.heap.size w w') : LQ w0 x w' := ⟨h.bel.trans (hb.mono h.bel.size), h.ins.keep hb, tab10_below h.tab hb⟩
theorem tab10_iter {w : World} (h : Tab10 w) {kk k : Nat} {s : ByteArray} (hk : w.heap[kk]? = some (.stringIter s k)) (k' : Nat) : Tab10 (w.iterAt kk s k') := by
  have hg : Tryd.prog.globalNamed "internal/strconv.uint64pow10" = some 3 := by kernel_rfl
  unfold Tab10 Lib.TabIs World.var? at h ⊢
  rw [hg] at h ⊢
  simp only [Option.bind_some] at h ⊢
  rw [Lib.iterAt_other w kk _ s k' (fun e => by rw [e, hk] at h; simp at h)]; exact h
theorem LQ.iter {w0 w : World} {x : Nat → Int} (h : LQ w0 x w) {kk k : Nat} {s : ByteArray} (hk : w.heap[kk]? = some (.stringIter s k)) (hB : w0.heap.size ≤ kk) (k' : Nat) : LQ w0 x (w.iterAt kk s k') :=
  ⟨Lib.below_iterAt h.bel hB _ _, h.ins.iter hk _, tab10_iter h.tab hk _⟩
theorem ba_add (a b : List UInt8) : (⟨a.toArray⟩ : ByteArray) ++ ⟨b.toArray⟩ = ⟨(a ++ b).toArray⟩ := by
  apply ByteArray.ext
  apply Array.ext'
  simp
theorem str3 (a b c : List UInt8) : Value.string ((⟨a.toArray⟩ : ByteArray) ++ ((⟨#[32]⟩ ++ ⟨b.toArray⟩) ++ ⟨c.toArray⟩)) = .string ⟨(a ++ (32 :: (b ++ c))).toArray⟩ := by
  rw [show (⟨#[32]⟩ : ByteArray) = ⟨[(32 : UInt8)].toArray⟩ from rfl, ba_add, ba_add, ba_add]; rfl
/-- a field in a line -/
def sgB (y : Nat) : List UInt8 := (sgn y).map u8
def lf (x : Nat → Int) (y : Nat) : List UInt8 := 32 :: (sgB y ++ Lib.itoa (x (pos y)))
theorem wp_normal {P : Program} {c : Code} {K : Act → World → Prop} {Q0 : Exit → Act → World → Prop} {a : Act} {w : World} (F : Act → World → Prop) (h : ∀ K' : Act → World → Prop, (∀ a w, F a w → K' a w) → c.wp P (Exit.then K' Q0) a w) (hF : ∀ a w, F a w → K a w) : c.wp P (Exit.then K Q0) a w := h K hF
class BelR (wr w0 : World) : Prop where
  bel : Below wr.heap.size wr w0
instance belR_drew (wr : World) : BelR wr wr.drew := ⟨⟨rfl, rfl, rfl, Nat.le_refl _, fun _ _ => rfl⟩⟩
instance belR_alloc (wr : World) (o : Obj) : BelR wr (wr.drew.alloc o) := ⟨(belR_drew wr).bel.alloc (Nat.le_refl _) _⟩
theorem below_alloc_drew (wr : World) (o : Obj) : Below wr.heap.size wr (wr.alloc o).drew := by
  have h : Below wr.heap.size wr (wr.alloc o) := (Below.refl _ _).alloc (Nat.le_refl _) _
  exact ⟨h.os, h.tape, h.output, h.size, h.block⟩
instance belR_alloc2 (wr : World) (o : Obj) : BelR wr (wr.alloc o).drew := ⟨below_alloc_drew wr o⟩
theorem bel_region {wr w0 w1 : World} [h : BelR wr w0] (hb : Below w0.heap.size w0 w1) : Below wr.heap.size wr w1 := h.bel.trans (hb.mono h.bel.size)
theorem kept_drew {w0 w1 : World} {cs : Array Value} {t : TypeId} (hb : Below (w0.alloc (.cells cs t)).drew.heap.size (w0.alloc (.cells cs t)).drew w1) : w1.heap[w0.heap.size]? = some (.cells cs t (0, 0)) := keep_heap (w := (w0.alloc (.cells cs t)).drew) (Go.heap_alloc_new w0 (.cells cs t)) hb
theorem kept_new {w0 w1 : World} {cs : Array Value} {t : TypeId} (hb : Below (w0.alloc (.cells cs t)).heap.size (w0.alloc (.cells cs t)) w1) : w1.heap[w0.heap.size]? = some (.cells cs t (0, 0)) := keep_heap (Go.heap_alloc_new _ _) hb
theorem two_d0 {w : World} {g : Nat} {a b : Value} {t : TypeId} (h : w.heap[g]? = some (.cells #[a, b] t (0, 0))) : w.cell? ⟨g, 0, none⟩ = some a := by rw [cell_of_row w g 0 _ _ _ h]; rfl
theorem two_d1 {w : World} {g : Nat} {a b : Value} {t : TypeId} (h : w.heap[g]? = some (.cells #[a, b] t (0, 0))) : w.cell? ⟨g, 1, none⟩ = some b := by rw [cell_of_row w g 1 _ _ _ h]; rfl
theorem two_f {w : World} {g : Nat} {a b : Value} {t : TypeId} (h : w.heap[g]? = some (.cells #[a, b] t (0, 0))) (k : Nat) : w.frozen? ⟨g, k, none⟩ = false := frozen_of_row _ _ _ _ _ h
set_option maxRecDepth 100000 in
set_option maxHeartbeats 4000000 in
theorem isa_line (x : Nat → Int) (hok : okI x = true) (w : World) (hT : Tab10 w) :
    Calls Tryd.prog 25 #[vI x] w fun e w' => e = .returned (.string ⟨(lineL x).toArray⟩) ∧ Below w.heap.size w w' := by
  obtain ⟨o, ho⟩ : ∃ o : Nat, x 0 = (o : Int) := ⟨(x 0).toNat, by have := okI_op hok; omega⟩
  have ho1 : 1 ≤ o ∧ o ≤ 17 := by have := okI_op hok; omega
  have Hin : Hid (∀ y ∈ letr o, 0 ≤ x (pos y) ∧ x (pos y) ≤ (mst y : Int)) := Lib.hid fun y hy => okI_in hok (by rw [ho]; exact hy)
  have HX : Hid (lineL x = (wrd o).map u8 ++ (letr o).flatMap (lf x)) := Lib.hid (by unfold lineL; rw [ho]; rfl)
  have hidx : ∀ w : World, (Instr.index 46 (.agg formsC) (.int .i64 (x 0))).run Tryd.prog w = .ok (.agg #[.string (bsT (wrd o)), .string (bsT (letr o))]) w := by rw [ho]; exact fun w => forms_at o (by omega) (by omega) w
  have HT := Lib.hid hT
  clear ho hok hT
  go_enter Tryd.func25, Tryd.ntmps25
  repeat' (first | go_values | go_skip | go_guarded | go_step | go_upon)
  obtain ⟨wr, hwr⟩ : ∃ wr, wr = w.alloc (.cells (ic x) 49) := ⟨_, rfl⟩
  have H0 : Hid (InsAt wr w.heap.size x) := Lib.hid (by rw [hwr]; exact InsAt.new w x)
  have Hb : Hid (Below w.heap.size w wr) := Lib.hid (by rw [hwr]; exact (Below.refl _ _).alloc (Nat.le_refl _) _)
  rw [← hwr]
  clear hwr
  have c0 := H0.out.cell 0 (by decide)
  have hfld := fun w => field_form (bsT (wrd o)) (bsT (letr o)) w
  refine wp_normal (F := fun a' w' => ∃ gv, a' = { tmps := #[vI x, .pointer (some ⟨w.heap.size, 0, none⟩), .string ⟨#[]⟩, .pointer (some ⟨gv, 0, none⟩), undef, undef, undef, undef, undef, undef, .agg formsC, .pointer (some ⟨w.heap.size, 0, none⟩), .int .i64 (x 0), .agg #[.string (bsT (wrd o)), .string (bsT (letr o))], undef, undef, undef, undef, undef, undef, undef, undef, undef, undef, undef, undef, undef, undef, undef, undef, undef, undef, undef, undef, undef, undef, undef, undef], defers := [] } ∧
    w'.heap[gv]? = some (.cells #[.string (bsT (wrd o)), .string (bsT (letr o))] 45 (0, 0)) ∧ Below wr.heap.size wr w') ?_ ?_
  · intro K' hK'
    have cA2 : (wr.alloc (.cells #[.string ⟨#[]⟩, .string ⟨#[]⟩] 45)).drew.cell? ⟨w.heap.size, 0, none⟩ = some (.int .i64 (x 0)) := (H0.out.keep (below_alloc_drew wr _)).cell 0 (by decide)
    have cA : (wr.drew.alloc (.cells #[.string ⟨#[]⟩, .string ⟨#[]⟩] 45)).cell? ⟨w.heap.size, 0, none⟩ = some (.int .i64 (x 0)) := (H0.out.keep (belR_alloc wr _).bel).cell 0 (by decide)
    go_region_with (go_at_call 19; refine Calls.mono (isa_forms _) ?_; rintro _ w1 ⟨rfl, hb1⟩; have hb2 := bel_region (wr := wr) hb1; have c1 := (H0.out.keep hb2).cell 0 (by decide); have c2 := (H0.out.keep (hb2.alloc (Nat.le_trans (Nat.le_refl _) hb2.size) (.cells #[.string ⟨#[]⟩, .string ⟨#[]⟩] 45))).cell 0 (by decide); try (have k1 := kept_drew hb1; have d0 := two_d0 k1; have d1 := two_d1 k1; have f0 := two_f k1 0; have f1 := two_f k1 1))
    all_goals first | exact hK' _ _ ⟨_, rfl, Go.heap_alloc_new _ _, hb2.alloc hb2.size _⟩ | exact hK' _ _ ⟨_, rfl, two_put k1 _ _, (hb2.setCell (Nat.le_refl _) _).setCell (Nat.le_refl _) _⟩
  · rintro a' wf ⟨gv, rfl, hgv, hbw⟩
    have d0 := two_d0 hgv
    have d1 := two_d1 hgv
    have H0f := Lib.hid (H0.out.keep hbw)
    have Hbf := Lib.hid (Hb.out.trans (hbw.mono Hb.out.size))
    have HTf := Lib.hid (tab10_below HT.out Hbf.out)
    clear hidx hfld c0 hgv hbw H0 Hb HT wr
    repeat' (first | go_values | go_skip | go_guarded | go_step | go_upon)
    obtain ⟨kk, hkk⟩ : ∃ g, g = wf.heap.size := ⟨_, rfl⟩
    obtain ⟨wq, hwq⟩ : ∃ wq, wq = wf.iter (bsT (letr o)) 0 := ⟨_, rfl⟩
    have Hit : Hid (wq.heap[kk]? = some (Obj.stringIter (bsT (letr o)) 0)) := Lib.hid (by rw [hwq, hkk]; exact World.iter_heap _ _ _)
    have hbq : Below wf.heap.size wf wq := by rw [hwq]; exact (Below.refl _ _).alloc (Nat.le_refl _) _
    have HL0 : Hid (LQ w x wq) := Lib.hid ⟨Hbf.out.trans (hbq.mono Hbf.out.size), H0f.out.keep hbq, tab10_below HTf.out hbq⟩
    have hkB : w.heap.size ≤ kk := by have := Hbf.out.size; omega
    rw [← hwq, ← hkk]
    have Hlet := Lib.hid (letr_is o)
    have hl3 := letr_len o
    clear hwq hkk hbq H0f Hbf HTf d0 d1 ho1
    generalize letr o = lt at Hlet Hit Hin HX hl3 ⊢
    obtain ⟨T0, hT0⟩ : ∃ T0, T0 = (wrd o).map u8 := ⟨_, rfl⟩
    have hT0l : T0.length ≤ 4 := by rw [hT0, List.length_map]; exact wrd_len o
    have hT0' : bsT (wrd o) = ⟨T0.toArray⟩ := by rw [hT0]; rfl
    rw [← hT0] at HX
    rw [hT0']
    clear hT0 hT0'
    go_loopw [4] (fun s4 wi => ∃ j : Nat, wi.heap[kk]? = some (Obj.stringIter (bsT lt) j) ∧ j ≤ lt.length ∧ s4 = .string ⟨(T0 ++ (lt.take j).flatMap (lf x)).toArray⟩ ∧ Hid (LQ w x wi)) (fun _ wi => lt.length - wi.iterPos kk)
    case atStart => exact ⟨0, Hit.out, Nat.zero_le _, by simp, HL0⟩
    case round =>
      clear Hit HL0
      obtain ⟨j, hj0, hjl, rfl, G⟩ := hrel
      by_cases hjs : j < lt.length
      · have hjb : j < (bsT lt).size := by rw [bsT_size]; exact hjs
        obtain ⟨y, hy⟩ : ∃ y, y = lt[j] := ⟨_, rfl⟩
        have hyl : y ∈ lt := by rw [hy]; exact List.getElem_mem hjs
        have hyi := Hlet.out y hyl
        have hy8 : ((bsT lt)[j]'hjb).toNat = y := by rw [bsT_get lt j hjb hjs fun z hz => by have := Hlet.out z hz; unfold IsL at this; omega, hy]
        have hnx : ∀ ty, (Instr.next (.pointer (some ⟨kk, 0, none⟩)) true ty).run Tryd.prog wr = _ := fun ty => Lib.run_next_ascii_at wr kk (bsT lt) j ty hj0 hjb (by rw [hy8]; unfold IsL at hyi; omega)
        rw [hy8] at hnx
        have htk : lt.take (j + 1) = lt.take j ++ [y] := by rw [List.take_succ_eq_append_getElem hjs, hy]
        obtain ⟨wi, hwi⟩ : ∃ wi, wi = wr.iterAt kk (bsT lt) (j + 1) := ⟨_, rfl⟩
        have Hwk : Hid (wi.heap[kk]? = some (Obj.stringIter (bsT lt) (j + 1))) := Lib.hid (by rw [hwi]; exact Lib.iterAt_heap _ _ _ _ _ hj0)
        have K : Hid (LQ w x wi) := Lib.hid (by rw [hwi]; exact G.out.iter hj0 hkB _)
        rw [← hwi] at hnx
        have hp0 : wr.iterPos kk = j := iterPos_of hj0
        have HFd := Lib.hid (isa_field y hyi w.heap.size)
        obtain ⟨hz0, hz1⟩ := Hin.out y hyl
        have hz2 := mst_le y
        have Htn : Hid ((T0 ++ (lt.take j).flatMap (lf x)) ++ lf x y = T0 ++ (lt.take (j + 1)).flatMap (lf x)) := Lib.hid (by rw [htk, List.flatMap_append, List.append_assoc]; simp)
        obtain ⟨F1, hF1⟩ : ∃ F, F = T0 ++ (lt.take (j + 1)).flatMap (lf x) := ⟨_, rfl⟩
        rw [← hF1] at Htn
        have HF1 := Lib.hid hF1
        clear hF1
        have hF0 : (T0 ++ (lt.take j).flatMap (lf x)).length ≤ 200 := by
          have h1 := flatMap_len (lf x) 23 (lt.take j) fun z hz => by
            have h2 := Hin.out z (List.mem_of_mem_take hz)
            have h3 := mst_le z
            have h4 := Lib.itoa_length_le (x (pos z)) (by omega) (by omega)
            have h5 := sgn_len z
            simp [lf, sgB]; omega
          have h4 : (lt.take j).length ≤ 3 := by rw [List.length_take]; omega
          rw [List.length_append]; omega
        generalize (T0 ++ (lt.take j).flatMap (lf x)) = F0 at Htn hF0 ⊢
        obtain ⟨ps, hps⟩ : ∃ ps, ps = pos y := ⟨_, rfl⟩
        have hp1 : ps < 5 := by have := pos_ge y; omega
        unfold lf at Htn
        rw [← hps] at HFd Htn hz0 hz1
        have hcell := K.out.ins.cell ps hp1
        generalize x ps = c at hcell Htn hz0 hz1
        have hc2 : c ≤ 1073741824 := by omega
        have hsg : bsT (sgn y) = ⟨(sgB y).toArray⟩ := rfl
        rw [hsg] at HFd
        clear hsg
        have HI := Lib.hid fun w (hT : Tab10 w) => itoa_c c hz0 (by omega) w hT
        have hsl : (sgB y).length ≤ 1 := by unfold sgB; rw [List.length_map]; exact sgn_len y
        have hil := Lib.itoa_length_le c (by omega) (by omega)
        generalize sgB y = sg at HFd Htn hsl
        generalize Lib.itoa c = ic' at HI Htn hil
        have hq1 := arrP_size sg
        have hq2 := arrP_size F0
        have hq3 := arrP_size ic'
        generalize mst y = m at HFd
        clear hwi htk hps hy hyl hy8 hjb hj0 G hz0 hz1 hz2 hc2
        repeat' (first | go_values | go_skip | go_guarded | go_step | go_upon)
        refine Calls.mono (HFd.out _) ?_
        rintro _ w7 ⟨rfl, rfl⟩
        dsimp only
        repeat' (first | go_values | go_skip | go_guarded | go_step | go_upon)
        refine Calls.mono (HI.out _ K.out.tab) ?_
        rintro _ w8 ⟨rfl, hb8⟩
        dsimp only
        have hit8 := keep_heap Hwk.out hb8
        have K8 := Lib.hid (K.out.step hb8)
        repeat' (first | go_values | go_skip | go_guarded | go_step | go_upon)
        go_roundw
        case rel => exact ⟨j + 1, hit8, hjs, by rw [← HF1.out, ← Htn.out]; exact str3 _ _ _, K8⟩
        case measure => rw [iterPos_of hit8, hp0]; omega
      · obtain rfl : j = lt.length := by omega
        rw [List.take_length]
        have hnx : ∀ ty, (Instr.next (.pointer (some ⟨kk, 0, none⟩)) true ty).run Tryd.prog wr = _ := fun ty => Lib.run_next_end_at wr kk (bsT lt) lt.length ty hj0 (by rw [bsT_size]; omega)
        repeat' (first | go_values | go_skip | go_guarded | go_step | go_upon)
        go_ret
        exact ⟨ret_s HX.out.symm, G.out.bel⟩
end Go.Proofs.YtpelngkhipcneaaDoor
