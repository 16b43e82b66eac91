/- Walk: the section of tables is read (load.sections). Conditions: the text is of at most 10^15 bytes; reader and program lie in variables of their own. -/
import Derived.Test.YtbomloodllddaaaPk36
import Derived.Test.YtbomloodllddaaaPk26
namespace Go.Proofs.Ytbomloodllddaaa
open Go.RowKit
theorem info_tab25 : (Try.prog.info? 54).map (fun i => (i.zero, i.size, i.bytes)) = some (some (.agg #[.int .i64 0, .slice none 0 0]), 2, 32) := by kernel_rfl
theorem tbC_one25 (t : Int × Value) (h : ∃ a n c, t.2 = .slice a n c) : ∀ u ∈ tbC t, u.oneCell' = true := fun u hu => by
  obtain ⟨a, n, c, e⟩ := h
  simp [tbC] at hu
  rcases hu with rfl | rfl
  · rfl
  · rw [e]; rfl
theorem tbC_len25 (t : Int × Value) : (tbC t).length = 2 := rfl
theorem getn_i64 {s : List UInt8} (hs : s.length ≤ 1000000000000000) : ∀ (n : Nat) (a : Int), I64 a → I64 (getn s n a).2.1
  | 0, a, h => h
  | n + 1, a, h => by
    rw [getn]
    split
    · exact (show I64 0 from i64_small (by omega))
    · split
      · exact (show I64 0 from i64_small (by omega))
      · exact getn_i64 hs n _ (vgetI_i64 hs a)
theorem geta_i64 {s : List UInt8} (hs : s.length ≤ 1000000000000000) (a most : Int) : I64 (geta s a most).2.1 := by
  unfold geta
  split
  · exact (show I64 0 from i64_small (by omega))
  · split
    · exact (show I64 0 from i64_small (by omega))
    · exact getn_i64 hs _ _ (vgetI_i64 hs a)
theorem rdL_i64 {s : List UInt8} (hs : s.length ≤ 1000000000000000) {a : Int} (ha : I64 a) (bad most : Int) : I64 (rdL s a bad most).2.1 := by
  unfold rdL
  split
  · exact ha
  · exact geta_i64 hs a most
theorem cutI_i64 (n : Nat) : I64 (cutI n) := by unfold cutI W62 I64; omega
theorem TBox.free {w : World} {g : Nat} {c : Int} {v : Value} (h : TBox w g c v) (k : Nat) : w.frozen? ⟨g, k, none⟩ = false := frozen_of_row _ _ _ _ _ h
theorem TBox.set1 {w : World} {g : Nat} {c : Int} {v : Value} (h : TBox w g c v) (x : Value) : TBox (w.setCell ⟨g, 1, none⟩ x) g c x := by
  unfold TBox; rw [setCell_eq_setRow _ _ _ _ _ _ _ h, setRow_heap _ _ _ _ _ _ h]; simp
theorem OwnI.typed {B : Nat} {e : TypeId} {k : IntKind} {w : World} {v : Value} {l : List Int} (h : OwnI B e k w v l) {b : Nat} (hb : v.ownBlock = some b) : ∃ cs fz, w.heap[b]? = some (.cells cs e fz) := by
  rcases h.2 with ⟨rfl, _⟩ | ⟨g', cap, cur, fz', rfl, _, hg', _⟩
  · simp [Value.ownBlock] at hb
  · simp only [Value.ownBlock, Option.some.injEq] at hb
    subst hb; exact ⟨_, _, hg'⟩
/-- tables of the call's own -/
def TOwnS (B : Nat) (w : World) (vt : Value) (l : List (Int × List Int)) (ts : List (Int × Value)) : Prop :=
  OwnR tbC 2 B 54 w vt ts ∧ ts.length = l.length ∧ ∀ (i : Nat) (t : Int × Value) (d : Int × List Int), ts[i]? = some t → l[i]? = some d → t.1 = d.1 ∧ I64 d.1 ∧ OwnI B 3 .i64 w t.2 d.2
def TOwn (B : Nat) (w : World) (vt : Value) (l : List (Int × List Int)) : Prop := ∃ ts, TOwnS B w vt l ts
theorem TOwn.nil (B : Nat) (w : World) : TOwn B w (.slice none 0 0) [] := ⟨[], OwnR.nil, rfl, fun i t d h => by simp at h⟩
theorem TOwnS.keepF {B : Nat} {w w' : World} {vt : Value} {l : List (Int × List Int)} {ts : List (Int × Value)} (h : TOwnS B w vt l ts) (hb : ∀ k, B ≤ k → k < w.heap.size → (∃ cs t fz, w.heap[k]? = some (.cells cs t fz) ∧ (t = 54 ∨ t = 3)) → w'.heap[k]? = w.heap[k]?) : TOwnS B w' vt l ts := by
  obtain ⟨h1, h2, h3⟩ := h
  refine ⟨h1.other fun k hk => ?_, h2, fun i t d ht hd => ?_⟩
  · obtain ⟨cs, fz, hc⟩ := h1.typed hk
    exact hb k (h1.below hk).1 (h1.below hk).2 ⟨cs, _, fz, hc, .inl rfl⟩
  · obtain ⟨e1, e2, e3⟩ := h3 i t d ht hd
    refine ⟨e1, e2, OwnC.block e3 fun k hk => ?_⟩
    obtain ⟨cs, fz, hc⟩ := e3.typed hk
    exact hb k (e3.below hk) (Array.getElem?_eq_some_iff.1 hc).1 ⟨cs, _, fz, hc, .inr rfl⟩
theorem TOwnS.keep {B : Nat} {w w' : World} {vt : Value} {l : List (Int × List Int)} {ts : List (Int × Value)} (h : TOwnS B w vt l ts) (hb : Below w.heap.size w w') : TOwnS B w' vt l ts := h.keepF fun k _ hk _ => hb.block k hk
theorem TOwn.keepF {B : Nat} {w w' : World} {vt : Value} {l : List (Int × List Int)} (h : TOwn B w vt l) (hb : ∀ k, B ≤ k → k < w.heap.size → (∃ cs t fz, w.heap[k]? = some (.cells cs t fz) ∧ (t = 54 ∨ t = 3)) → w'.heap[k]? = w.heap[k]?) : TOwn B w' vt l := by
  obtain ⟨ts, h⟩ := h
  exact ⟨ts, h.keepF hb⟩
/-- a table more: its row was appended, its numbers stand -/
theorem TOwnS.snoc {B : Nat} {w w' : World} {vt vt' v3 : Value} {l : List (Int × List Int)} {ts : List (Int × Value)} {c : Int} {y : List Int} (h : TOwnS B w vt l ts) (ho : OwnR tbC 2 B 54 w' vt' (ts ++ [(c, v3)])) (hg : w.grownBy w' vt.ownBlock) (hv : OwnI B 3 .i64 w v3 y) (hc : I64 c) : TOwn B w' vt' (l ++ [(c, y)]) := by
  obtain ⟨h1, h2, h3⟩ := h
  have hin : ∀ {v : Value} {y : List Int}, OwnI B 3 .i64 w v y → OwnI B 3 .i64 w' v y := fun {v y} hv => OwnC.block hv fun k hk => by
    obtain ⟨cs, fz, hc⟩ := hv.typed hk
    refine hg.block k (Array.getElem?_eq_some_iff.1 hc).1 fun e => ?_
    obtain ⟨cs', fz', hc'⟩ := h1.typed (k := k) e.symm
    rw [hc] at hc'; simp at hc'
  refine ⟨ts ++ [(c, v3)], ho, by simp [h2], fun i t d ht hd => ?_⟩
  rcases Nat.lt_or_ge i ts.length with hi | hi
  · rw [List.getElem?_append_left hi] at ht
    rw [List.getElem?_append_left (by omega)] at hd
    obtain ⟨e1, e2, e3⟩ := h3 i t d ht hd
    exact ⟨e1, e2, hin e3⟩
  · rw [List.getElem?_append_right hi] at ht
    rw [List.getElem?_append_right (by omega)] at hd
    rw [← h2] at hd
    have h0 : i - ts.length = 0 := by
      rcases Nat.eq_zero_or_pos (i - ts.length) with h | h
      · exact h
      · rw [List.getElem?_eq_none (by simp; omega)] at ht; cases ht
    rw [h0] at ht hd
    simp at ht hd
    subst ht hd
    exact ⟨rfl, hc, hin hv⟩
theorem TOwn.keep {B : Nat} {w w' : World} {vt : Value} {l : List (Int × List Int)} (h : TOwn B w vt l) (hb : Below w.heap.size w w') : TOwn B w' vt l := h.keepF fun k _ hk _ => hb.block k hk
theorem TOwn.els {B g : Nat} {w w' : World} {vt : Value} {l : List (Int × List Int)} (h : TOwn B w vt l) (he : Else g w w') (hg : g < B) : TOwn B w' vt l := h.keepF fun k hB hk _ => he.block k hk (by omega)
theorem TOwn.set {B g o : Nat} {w : World} {u vt : Value} {l : List (Int × List Int)} (h : TOwn B w vt l) (hg : g < B) : TOwn B (w.setCell ⟨g, o, none⟩ u) vt l := h.keepF fun k hB _ _ => Below.heap_setCell _ _ _ _ (by dsimp only; omega)
/-- the loop of tables -/
structure TS (g q : Nat) (s : List UInt8) (p : Prg) (v : PV) (w : World) (R : List (Int × List Int) × Int × Int × Bool) (m : Nat) (a bad : Int) (wd : Bool) (l : List (Int × List Int)) (vt : Value) (w' : World) : Prop where
  rd : RdAt w' g s a bad wd
  box : PBox w' q { p with tabs := l } { v with vt := vt }
  own : TOwn w.heap.size w' vt l
  els : Else2 g q w w'
  at' : I64 a
  len : l.length + m ≤ 17
  good : bad = 0 → aheadT l wd (tabsF s m a) = R ∧ l.length + m ≤ 16
  wrong : bad ≠ 0 → R = ([], 0, bad, false)
set_option maxRecDepth 100000 in
set_option maxHeartbeats 2000000 in
theorem sec_three (g q : Nat) (hgq : g ≠ q) (s : List UInt8) (hs : s.length ≤ 1000000000000000) (p : Prg) (v : PV) (w : World) (HB : PBox w q p v) (h : RdAt w g s 0 0 false) (hp : p.tabs = []) (hv : v.vt = .slice none 0 0) :
    Calls Try.prog 80 #[.pointer (some ⟨g, 0, none⟩), .pointer (some ⟨q, 0, none⟩)] w (SecDone g q s 2 p w fun w' v' => v' = { v with vt := v'.vt } ∧ TOwn w.heap.size w' v'.vt (sec3F s).1) := by
  have Hc := Lib.hid (rd_count g s hs 16 (by omega) w h)
  have HE : Hid (secE 2 s = errS s.length (sec3F s).2.1 (sec3F s).2.2.1 (sec3F s).2.2.2) := Lib.hid rfl
  have HP : Hid (secP 2 s p = { p with tabs := (sec3F s).1 }) := Lib.hid rfl
  have HR : sec3F s = if (rdC s 16).2.2 ≠ 0 then ([], 0, (rdC s 16).2.2, false) else tabsF s (rdC s 16).1 (rdC s 16).2.1 := rfl
  have hcl := rdC_le s 16
  have hci := rdC_i64 s hs 16
  rw [show ((16 : Nat) : Int) = 16 from rfl] at Hc
  generalize rdC s 16 = c at Hc HR hcl hci
  obtain ⟨n, a0, b0⟩ := c
  dsimp only at Hc HR hcl hci
  generalize sec3F s = R at HE HP HR ⊢
  have hgl := h.lt
  have hql := HB.lt
  have hX0 : ∀ w1, RdAt w1 g s a0 b0 false → Else g w w1 → TS g q s p v w R n a0 b0 false [] v.vt w1 := fun w1 hr he => by
    refine ⟨hr, ?_, by rw [hv]; exact TOwn.nil _ _, Else2.of1 he, hci, by simp; omega, fun h0 => ⟨?_, by simp; omega⟩, fun h0 => by rw [HR, if_pos h0]⟩
    · have := HB.els he hgq
      rw [← hp]; exact this
    · rw [HR, if_neg (by simpa using h0), aheadT_nil]
  have HX0 := Lib.hid hX0
  clear HR hX0 hp hv hci h HB
  unfold SecDone
  generalize secE 2 s = E at HE ⊢
  generalize secP 2 s p = P at HP ⊢
  go_enter Try.func80, Try.ntmps80
  repeat' (first | go_values | go_skip | go_guarded | go_step | go_upon)
  refine Calls.mono (Hc.out) ?_
  rintro _ w1 ⟨rfl, hr1, he1⟩
  dsimp only
  have HX1 := Lib.hid (HX0.out w1 hr1 he1)
  clear hr1 he1 Hc HX0
  repeat' (first | go_values | go_skip | go_guarded | go_step | go_upon)
  go_loopw [4] (fun s4 wr => ∃ (m : Nat) (a bad : Int) (wd : Bool) (l : List (Int × List Int)) (vt : Value), s4 = .int .i64 m ∧ Hid (TS g q s p v w R m a bad wd l vt wr)) (fun s4 _ => (intOf s4).toNat)
  case atStart => exact ⟨n, _, _, _, _, _, rfl, HX1⟩
  case round =>
    clear HX1
    obtain ⟨m, a, bad, wd, l, vt, rfl, HX⟩ := hrel
    have c2 := HX.out.rd.c2
    have hml := HX.out.len
    by_cases h0 : bad = 0
    · subst h0
      rcases Nat.eq_zero_or_pos m with rfl | hm
      · have hR : Hid (R = (l, a, 0, wd)) := Lib.hid (by rw [← ((HX.out.good rfl).1)]; exact aheadT_zero s l wd a)
        repeat' (first | go_values | go_skip | go_guarded | go_step | go_upon)
        go_end0
        refine ⟨rfl, a, 0, wd, HX.out.rd, by rw [HE.out, hR.out], HX.out.els, _, _, HX.out.box, fun _ => ⟨by rw [HP.out, hR.out], rfl, by rw [hR.out]; exact HX.out.own⟩⟩
      · obtain ⟨k, rfl⟩ : ∃ k, m = k + 1 := ⟨m - 1, by omega⟩
        have Hn := Lib.hid (rd_number g s hs a wd HX.out.at' wr HX.out.rd)
        have Hx := Lib.hid fun W (hW : RdAt W g s (vget s a).2.1 (vget s a).2.2 (wd || decide (W62 < (vget s a).1))) => rd_ints g s hs (vget s a).2.1 (vget s a).2.2 (wd || decide (W62 < (vget s a).1)) (vgetI_i64 hs a) 400000 (by omega) W hW
        have Hi : Hid (I64 (tab1 s a).2.1) := Lib.hid (rdL_i64 hs (vgetI_i64 hs a) _ _)
        have Ht : Hid (tab1 s a = ((cutI (vget s a).1, cutL (rdL s (vget s a).2.1 (vget s a).2.2 400000).1), (rdL s (vget s a).2.1 (vget s a).2.2 400000).2.1, (rdL s (vget s a).2.1 (vget s a).2.2 400000).2.2, decide (W62 < (vget s a).1) || wideL (rdL s (vget s a).2.1 (vget s a).2.2 400000).1)) := Lib.hid rfl
        have Hg1 : Hid ((tab1 s a).2.2.1 ≠ 0 → R = ([], 0, (tab1 s a).2.2.1, false)) := Lib.hid fun h => by rw [← (HX.out.good rfl).1, aheadT_bad l wd h]
        have Hg2 : Hid ((tab1 s a).2.2.1 = 0 → aheadT (l ++ [(tab1 s a).1]) (wd || (tab1 s a).2.2.2) (tabsF s k (tab1 s a).2.1) = R) := Lib.hid fun h => by rw [← (HX.out.good rfl).1, aheadT_step l wd h]
        have hll := (HX.out.good rfl).2
        have Hc1 := Lib.hid (cutI_i64 (vget s a).1)
        rw [show ((400000 : Nat) : Int) = 400000 from rfl] at Hx
        generalize tab1 s a = r at Hi Ht Hg1 Hg2
        generalize vget s a = z at Hn Hx Ht Hc1
        obtain ⟨z1, z2, z3⟩ := z
        dsimp only at Hn Hx Ht Hc1
        generalize rdL s z2 z3 400000 = y at Hx Ht
        obtain ⟨y1, y2, y3⟩ := y
        dsimp only at Hx Ht
        obtain ⟨r1, r2, r3, r4⟩ := r
        have hrt := Ht.out
        simp only [Prod.mk.injEq] at hrt
        obtain ⟨hrt1, hrt2, hrt3, hrt4⟩ := hrt
        subst hrt1 hrt2 hrt3
        have Hr4 := Lib.hid hrt4
        clear hrt4 Ht
        dsimp only at Hi Hg1 Hg2
        have hwr : w.heap.size ≤ wr.heap.size := HX.out.els.size
        repeat' (first | go_values | go_skip | go_guarded | go_step | go_upon)
        refine Calls.mono (Hn.out) ?_
        rintro _ w2 ⟨rfl, hr2, he2⟩
        dsimp only
        have hB2 := HX.out.box.els he2 hgq
        have hO2 := HX.out.own.els he2 hgl
        have hE2 := HX.out.els.trans (Else2.of1 he2)
        have HB2 := Lib.hid hB2
        have HO2 := Lib.hid hO2
        have HE2 := Lib.hid hE2
        have HR2 := Lib.hid hr2
        clear hr2 he2 Hn hB2 hO2 hE2
        generalize cutI z1 = c1 at *
        repeat' (first | go_values | go_skip | go_guarded | go_step | go_upon)
        have hab : Below w2.heap.size w2 (w2.alloc (.cells #[.int .i64 c1, .slice none 0 0] 54)) := (Below.refl _ _).alloc (Nat.le_refl _) _
        refine Calls.mono (Hx.out _ (HR2.out.keep hab)) ?_
        rintro _ w3 ⟨v3, rfl, ho3, hr3, he3⟩
        dsimp only
        obtain ⟨tb, htb⟩ : ∃ b, b = w2.heap.size := ⟨_, rfl⟩
        have hw2 : w.heap.size ≤ w2.heap.size := HE2.out.size
        have hT3 : TBox w3 tb c1 (.slice none 0 0) := by rw [htb]; exact he3.row (TBox.new w2 c1 _) (by omega)
        have hB3 := (HB2.out.keep hab).els he3 hgq
        have hE3 := (HE2.out.trans (Else2.of1 (Else.of_below hab))).trans (Else2.of1 he3)
        have ho3' : OwnI w.heap.size 3 .i64 w3 v3 (cutL y1) := ho3.base (by simp; omega)
        have Hvtb : Hid (∀ k, vt.ownBlock = some k → k ≠ tb) := Lib.hid fun k hk => by
          obtain ⟨ts', ho', _⟩ := HO2.out
          have := (ho'.below hk).2
          omega
        have htq : q ≠ tb := by omega
        have htg : g ≠ tb := by omega
        have htw : w.heap.size ≤ tb := by omega
        have hO4 : TOwn w.heap.size (w3.setCell ⟨tb, 1, none⟩ v3) vt l := HO2.out.keepF fun k hB hk _ => by
          rw [show (w3.setCell ⟨tb, 1, none⟩ v3).heap[k]? = w3.heap[k]? from Below.heap_setCell _ _ _ _ (by dsimp only; omega), he3.block k (by simp; omega) (by omega), hab.block k hk]
        have hV4 : OwnI w.heap.size 3 .i64 (w3.setCell ⟨tb, 1, none⟩ v3) v3 (cutL y1) := OwnC.block ho3' fun k hk => Below.heap_setCell _ _ _ _ (by
          obtain ⟨cs, fz, hc⟩ := ho3'.typed hk
          intro e
          have h := hT3
          unfold TBox at h
          rw [show tb = k from e.symm] at h
          rw [hc] at h; simp at h)
        have hB4 : PBox (w3.setCell ⟨tb, 1, none⟩ v3) q { p with tabs := l } { v with vt := vt } := hB3.setG (Ne.symm htq)
        have hR4 : RdAt (w3.setCell ⟨tb, 1, none⟩ v3) g s r2 r3 ((wd || decide (W62 < z1)) || wideL y1) := hr3.setQ htg
        have hE4 : Else2 g q w (w3.setCell ⟨tb, 1, none⟩ v3) := hE3.belowB ((Below.refl _ _).setCell (p := ⟨tb, 1, none⟩) htw _)
        rw [← htb]
        clear ho3 he3 hab HR2 HB2 HO2 HE2 htb hw2 w2 hB3 hE3 hr3
        obtain ⟨a3, n3, c3, e3⟩ : ∃ a n c, v3 = .slice a n c := by obtain ⟨a, c, e⟩ := ho3'.form; exact ⟨a, _, c, e⟩
        subst e3
        have k1 := hT3.two.2
        have f1 := hT3.free 1
        have HT4 := Lib.hid (hT3.set1 (.slice a3 n3 c3))
        have HO4 := Lib.hid hO4
        have HV4 := Lib.hid hV4
        have HB4 := Lib.hid hB4
        have HR4 := Lib.hid hR4
        have HE4 := Lib.hid hE4
        clear hT3 hO4 hV4 hB4 hR4 hE4 ho3'
        repeat' (go_not_at_region 5; first | go_values | go_skip | go_guarded | go_step | go_upon)
        refine gen_wd (fun W => TBox W tb c1 (.slice a3 n3 c3) ∧ TOwn w.heap.size W vt l ∧ OwnI w.heap.size 3 .i64 W (.slice a3 n3 c3) (cutL y1) ∧ PBox W q { p with tabs := l } { v with vt := vt } ∧ RdAt W g s r2 r3 ((wd || decide (W62 < z1)) || wideL y1) ∧ Else2 g q w W) ⟨HT4.out, HO4.out, HV4.out, HB4.out, HR4.out, HE4.out⟩ ?_
        clear HT4 HO4 HV4 HB4 HR4 HE4 k1 f1
        rintro w4 ⟨hT, hO, hV, hB, hR, hE⟩
        obtain ⟨ts, ho⟩ := hO
        obtain ⟨xa, xc, hvt, _, _⟩ := ho.1.form
        subst hvt
        obtain ⟨vt, hvt⟩ : ∃ vt, vt = Value.slice xa ts.length xc := ⟨_, rfl⟩
        rw [← hvt] at hB
        obtain ⟨C, hC⟩ : ∃ C : World → Prop, C = fun W => PBox W q { p with tabs := l } { v with vt := vt } ∧ TBox W tb c1 (.slice a3 n3 c3) := ⟨_, rfl⟩
        have Hmk : Hid (∀ W, PBox W q { p with tabs := l } { v with vt := vt } → TBox W tb c1 (.slice a3 n3 c3) → C W) := Lib.hid (fun W h h' => by rw [hC]; exact ⟨h, h'⟩)
        have hC' : ∀ W, C W → PBox W q { p with tabs := l } { v with vt := vt } ∧ TBox W tb c1 (.slice a3 n3 c3) := fun W h => by rw [hC] at h; exact h
        have q0 : ∀ nq : GW C, nq.1.cell? ⟨q, 5, none⟩ = some (.slice xa ts.length xc) := fun nq => by rw [← hvt]; exact (hC' _ nq.2).1.cell 5
        have q1 : ∀ nq : GW C, nq.1.cell? ⟨tb, 0, none⟩ = some (.int .i64 c1) := fun nq => (hC' _ nq.2).2.two.1
        have q2 : ∀ nq : GW C, nq.1.cell? ⟨tb, 1, none⟩ = some (.slice a3 n3 c3) := fun nq => (hC' _ nq.2).2.two.2
        have htsl : ts.length ≤ 16 := by have := ho.2.1; omega
        have HTB := Lib.hid hT
        have HO := Lib.hid ho
        have HV := Lib.hid hV
        have HB := Lib.hid hB
        have HR := Lib.hid hR
        have HEE := Lib.hid hE
        clear hC hC' hT ho hV hB hR hE
        refine wp_region_anyU (by kernel_rfl) C 10 ?_
        refine tkU 0 rfl ?_
        refine tkU 1 rfl ?_
        refine tkU 2 rfl ?_
        refine tkU 3 rfl ?_
        refine tkU 4 rfl ?_
        refine tkU 5 rfl ?_
        clear q0 q1 q2
        refine genUw (fun W => Below w4.heap.size w4 W) ((Below.refl _ _).drew) ?_
        intro W0 hb0
        have HT0 := Lib.hid (HTB.out.keep hb0)
        have HB0 := Lib.hid (HB.out.keep hb0)
        refine wpAnyU_ready (CG.of (Hmk.out _ HB0.out HT0.out)) (rs := [6]) (by kernel_rfl) (by simp) ?_
        refine (AllReadyU.cons rfl (fun K hK => ?_) AllReadyU.nil)
        go_simp
        refine hK _ _ ?_
        clear hK K
        have hab : Below w4.heap.size w4 (W0.alloc (.cells #[.int .i64 c1, .slice a3 n3 c3] 54)) := hb0.alloc hb0.size _
        refine genUw (fun W => Below w4.heap.size w4 W ∧ RowOf tbC 2 W (.slice (some ⟨W0.heap.size, 0, none⟩) 1 1) [(c1, .slice a3 n3 c3)]) ⟨hab, row_new W0 (c1, Value.slice a3 n3 c3) _ rfl _ rfl⟩ ?_
        clear hab HT0 HB0
        rintro W2 ⟨hb2, hrow⟩
        have ht2 := HTB.out.keep hb2
        have hb2' := HB.out.keep hb2
        have ho2 := HO.out.keep hb2
        have hv2 : OwnI w.heap.size 3 .i64 W2 (.slice a3 n3 c3) (cutL y1) := HV.out.keep hb2 (Nat.le_refl _)
        have hr2 := HR.out.keep hb2
        have he2 := HEE.out.trans (Else2.of1 (Else.of_below (g := g) hb2))
        clear hb0 hb2
        refine wpAnyU_ready (CG.of (Hmk.out _ hb2' ht2)) (rs := [7]) (by kernel_rfl) (by simp) ?_
        refine (AllReadyU.cons rfl (fun K hK => ?_) AllReadyU.nil)
        refine step_of rfl (app_rowW (f := tbC) (sz := 2) 32 tbC_len25 (fun y hy => by simp only [List.mem_singleton] at hy; subst hy; exact tbC_one25 _ ⟨_, _, _, rfl⟩) Try.underlying23 info_tab25 rfl (.tmp 29) (.tmp 31) rfl rfl hrow ho2.1 he2.size (by simp; omega) (by unfold maxLen; simp; omega) ?_)
        intro v1 W3 ho3 hg3
        refine hK _ _ ?_
        clear hK K
        have hO3 := ho2.snoc ho3 hg3 hv2 Hc1.out
        have hnq : ∀ k, (Value.slice xa ts.length xc).ownBlock = some k → w.heap.size ≤ k ∧ k ≠ q ∧ k ≠ g ∧ k ≠ tb := fun k hk => by
          have h1 := ho2.1.below hk
          exact ⟨h1.1, by omega, by omega, Hvtb.out k hk⟩
        have hB3 : PBox W3 q { p with tabs := l } { v with vt := vt } := grown_obj hg3 hb2' fun e => (hnq q e).2.1 rfl
        have hT3 : TBox W3 tb c1 (.slice a3 n3 c3) := grown_obj hg3 ht2 fun e => (hnq tb e).2.2.2 rfl
        have hR3 : RdAt W3 g s r2 r3 ((wd || decide (W62 < z1)) || wideL y1) := grown_obj hg3 hr2 fun e => (hnq g e).2.2.1 rfl
        have hE3 : Else2 g q w W3 := he2.belowB (grown_below hg3 he2.size fun k hk => (hnq k hk).1)
        rw [show ((wd || decide (W62 < z1)) || wideL y1) = (wd || r4) from by rw [Hr4.out, Bool.or_assoc]] at hR3
        obtain ⟨a1, n1, c1', e1⟩ : ∃ a n c, v1 = .slice a n c := by obtain ⟨a, c, e, _⟩ := ho3.form; exact ⟨a, _, c, e⟩
        subst e1
        clear hb2' ht2 ho2 hv2 hr2 he2 hrow hg3 hnq ho3 HTB HB HO HV HR HEE
        have o1 : W3.cell? ⟨q, 5, none⟩ = some vt := hB3.cell 5
        have f1 := hB3.free 5
        refine wpAnyU_ready (CG.of (Hmk.out _ hB3 hT3)) (rs := [8]) (by kernel_rfl) (by simp) ?_
        refine (AllReadyU.cons rfl (fun K hK => ?_) AllReadyU.nil)
        go_simp
        refine hK _ _ ?_
        clear hK K
        refine tkU 9 rfl ?_
        refine wpAnyU_ready (CG.of (Hmk.out _ hB3 hT3)) (rs := [10]) (by kernel_rfl) (by simp) ?_
        refine (AllReadyU.cons rfl (fun K hK => ?_) AllReadyU.nil)
        go_simp
        refine hK _ _ ?_
        clear hK K
        refine genUw (fun W => TS g q s p v w R k r2 r3 (wd || r4) (l ++ [(c1, cutL y1)]) (.slice a1 n1 c1') W) ⟨hR3.setQ hgq, hB3.set5 (.slice a1 n1 c1') (l ++ [(c1, cutL y1)]), hO3.set hql, hE3.setQ _ _, Hi.out, by simp; omega, fun h => ⟨Hg2.out h, by simp; omega⟩, Hg1.out⟩ ?_
        clear o1 f1 hB3 hR3 hE3 hO3 hT3
        intro W4 hx4
        have HX4 := Lib.hid hx4
        clear hx4
        refine wpAnyU_done (by kernel_rfl) (by kernel_rfl) (by go_simp <;> with_reducible rfl) ?_
        repeat' (first | go_values | go_skip | go_guarded | go_step | go_upon)
        go_roundw
        case rel => exact ⟨k, _, _, _, _, _, by go_num, HX4⟩
        case measure => simp [intOf]
    · have e1 : (bad == 0) = false := beq_false_of_ne h0
      have H0 := Lib.hid h0
      clear h0
      rcases Nat.eq_zero_or_pos m with rfl | hm
      all_goals
       repeat' (first | go_values | go_skip | go_guarded | go_step | go_upon)
       go_end0
       have h0 := H0.out
       have hR : Hid (R = ([], 0, bad, false)) := Lib.hid (HX.out.wrong h0)
       refine ⟨rfl, a, bad, wd, HX.out.rd, by rw [HE.out, hR.out]; unfold errS; rw [if_pos h0, if_pos h0], HX.out.els, _, _, HX.out.box, fun h => absurd h (by rw [HE.out, hR.out]; unfold errS; rw [if_pos h0]; exact h0)⟩
end Go.Proofs.Ytbomloodllddaaa
/- Walk: the section of pairs is read (load.sections). Conditions: the text is of at most 10^15 bytes; reader and program lie in variables of their own. -/
namespace Go.Proofs.Ytbomloodllddaaa
open Go.RowKit
theorem info_u32L : (Try.prog.info? 45).map (fun i => (i.zero, i.size, i.bytes)) = some (some (.int .u32 0), 1, 4) := by kernel_rfl
theorem low32_take (l : List Nat) (k : Nat) (x : Nat) (h : l[k]? = some x) : low32 (l.take (k + 1)) = low32 (l.take k) ++ [x % 4294967296] := by
  have hk := (List.getElem?_eq_some_iff.1 h)
  unfold low32
  rw [List.take_succ_eq_append_getElem hk.1, List.map_append, hk.2]; rfl
theorem wide32_take (l : List Nat) (k : Nat) (x : Nat) (h : l[k]? = some x) : wide32 (l.take (k + 1)) = (wide32 (l.take k) || decide (4294967295 < x)) := by
  have hk := (List.getElem?_eq_some_iff.1 h)
  unfold wide32
  rw [List.take_succ_eq_append_getElem hk.1, List.any_append, hk.2]; simp
theorem low32_len (l : List Nat) : (low32 l).length = l.length := by simp [low32]
theorem getn_u64 (s : List UInt8) : ∀ (n : Nat) (a : Int), AllU64 (getn s n a).1
  | 0, a => fun x h => by simp [getn] at h
  | n + 1, a => by
    rw [getn]
    split
    · intro x h; simp at h
    · split
      · intro x h; simp at h
      · intro x h
        rcases List.mem_cons.1 h with rfl | h
        · exact vgetI_u64 s a
        · exact getn_u64 s n _ x h
theorem geta_u64 (s : List UInt8) (a most : Int) : AllU64 (geta s a most).1 := by
  unfold geta
  split
  · intro x h; simp at h
  · split
    · intro x h; simp at h
    · exact getn_u64 s _ _
theorem and_low32 (x : Nat) (h : U64 x) : bits .and .u64 (x : Int) 4294967295 = ((x % 4294967296 : Nat) : Int) := by
  have := u64_and_nat x 4294967295 h (by decide)
  rw [show x &&& 4294967295 = x % 4294967296 from Nat.and_two_pow_sub_one_eq_mod x 32] at this
  exact this
/-- the loop of seeds -/
structure ES (g q : Nat) (s : List UInt8) (p : Prg) (v : PV) (w1 : World) (a b : Int) (l : List Nat) (vs : Value) (wr : World) : Prop where
  rd : RdAt wr g s a b (wide32 l)
  box : PBox wr q { p with hash := ⟨low32 l, p.hash.keys, p.hash.vals⟩ } { v with vs := vs }
  own : OwnI w1.heap.size 45 .u32 wr vs (nats (low32 l))
  els : Else2 g q w1 wr
set_option maxRecDepth 100000 in
set_option maxHeartbeats 2000000 in
theorem sec_five (g q : Nat) (hgq : g ≠ q) (s : List UInt8) (hs : s.length ≤ 1000000000000000) (p : Prg) (v : PV) (w : World) (HB : PBox w q p v) (h : RdAt w g s 0 0 false) (hp : p.hash = ⟨[], [], []⟩) (hv : v.vs = .slice none 0 0) :
    Calls Try.prog 85 #[.pointer (some ⟨g, 0, none⟩), .pointer (some ⟨q, 0, none⟩)] w (SecDone g q s 4 p w fun w' v' => v' = { v with vs := v'.vs, vk := v'.vk, vv := v'.vv } ∧ OwnI w.heap.size 45 .u32 w' v'.vs (nats (low32 (seedF s).1)) ∧ OwnI w.heap.size 66 .u64 w' v'.vk (nats (keyF s).1) ∧ OwnI w.heap.size 66 .u64 w' v'.vv (nats (valF s).1)) := by
  have Hc := Lib.hid (rd_list g s hs 0 0 false (i64_small (by omega)) 4096 (by omega) w h)
  have hl := geta_len s 0 4096
  have hi := geta_i64 hs 0 4096
  have hu := geta_u64 s 0 4096
  rw [rdL_zero] at Hc
  rw [show ((4096 : Nat) : Int) = 4096 from rfl] at Hc hl
  have HE : Hid (secE 4 s = errS s.length (rdL s (rdL s (seedF s).2.1 (seedF s).2.2 4096).2.1 (rdL s (seedF s).2.1 (seedF s).2.2 4096).2.2 4096).2.1 (rdL s (rdL s (seedF s).2.1 (seedF s).2.2 4096).2.1 (rdL s (seedF s).2.1 (seedF s).2.2 4096).2.2 4096).2.2 (wide32 (seedF s).1)) := Lib.hid (by show err5 s = _; unfold err5 valF keyF; rfl)
  have HP : Hid (secP 4 s p = { p with hash := ⟨low32 (seedF s).1, (keyF s).1, (valF s).1⟩ }) := Lib.hid rfl
  have HK : keyF s = rdL s (seedF s).2.1 (seedF s).2.2 4096 := by unfold keyF; rfl
  have HV : valF s = rdL s (keyF s).2.1 (keyF s).2.2 4096 := by unfold valF; rfl
  rw [HV, HK] at HP ⊢
  rw [show geta s 0 4096 = seedF s from (by unfold seedF; rfl)] at Hc hl hi hu
  clear HK HV
  generalize seedF s = r at Hc hl hi hu HE HP ⊢
  obtain ⟨l, r2, r3⟩ := r
  dsimp only at Hc hl hi hu HE HP ⊢
  have Hx := Lib.hid fun (a b : Int) (wd : Bool) (ha : I64 a) W (hW : RdAt W g s a b wd) => rd_list g s hs a b wd ha 4096 (by omega) W hW
  have hi2 := rdL_i64 hs hi r3 4096
  rw [show ((4096 : Nat) : Int) = 4096 from rfl] at Hx
  obtain ⟨y, hy⟩ : ∃ y, rdL s r2 r3 4096 = y := ⟨_, rfl⟩
  rw [hy] at HE HP hi2 ⊢
  obtain ⟨y1, y2, y3⟩ := y
  dsimp only at HE HP hi2 ⊢
  obtain ⟨z, hz⟩ : ∃ z, rdL s y2 y3 4096 = z := ⟨_, rfl⟩
  rw [hz] at HE HP ⊢
  obtain ⟨z1, z2, z3⟩ := z
  dsimp only at HE HP ⊢
  have HY := Lib.hid hy
  have HZ := Lib.hid hz
  clear hy hz
  have HBB := Lib.hid HB
  have hgl := h.lt
  have hql := HB.lt
  clear h HB
  unfold SecDone
  generalize secE 4 s = E at HE ⊢
  generalize secP 4 s p = P at HP ⊢
  go_enter Try.func85, Try.ntmps85
  repeat' (first | go_values | go_skip | go_guarded | go_step | go_upon)
  refine Calls.mono (Hc.out) ?_
  rintro _ w1 ⟨vl, rfl, ho1, hr1, he1⟩
  dsimp only
  obtain ⟨al, cl, rfl, hcap, hcell⟩ := ho1.rd
  rw [nats_len] at hcap hcell
  rw [nats_len]
  have hbl : ∀ b off, al = some ⟨b, off, none⟩ → w.heap.size ≤ b := fun b off e => ho1.below (by rw [e]; rfl)
  obtain ⟨n, hn⟩ : ∃ n, n = l.length := ⟨_, rfl⟩
  rw [← hn] at hcap hcell hl ⊢
  have hw1 : w.heap.size ≤ w1.heap.size := he1.size
  have Hcell : Hid (∀ k x, k < n → l[k]? = some x → ∃ b off, al = some ⟨b, off, none⟩ ∧ b < w1.heap.size ∧ w.heap.size ≤ b ∧ w1.cell? ⟨b, off + k, none⟩ = some (.int .u64 (x : Nat))) := Lib.hid fun k x hk hx => by
    rcases hcell with h0 | ⟨b, off, e, hb, hc⟩
    · have := congrArg List.length h0; rw [nats_len, ← hn] at this; simp at this; omega
    · refine ⟨b, off, e, hb, hbl b off e, ?_⟩
      rw [hc k hk, nats_getD l k (by omega)]
      rw [List.getElem?_eq_getElem (by omega)] at hx
      injection hx with hx
      rw [hx]
  have HT : Hid (∀ k x, l[k]? = some x → low32 (l.take (k + 1)) = low32 (l.take k) ++ [x % 4294967296] ∧ wide32 (l.take (k + 1)) = (wide32 (l.take k) || decide (4294967295 < x)) ∧ U64 x) := Lib.hid fun k x h => ⟨low32_take l k x h, wide32_take l k x h, hu x (List.mem_of_getElem? h)⟩
  have HL : Hid (∀ k, k ≤ n → (nats (low32 (l.take k))).length = k) := Lib.hid fun k hk => by rw [nats_len, low32_len, List.length_take]; omega
  have HA : Hid (l.take n = l) := Lib.hid (by rw [hn]; exact List.take_length)
  have HX : Hid (∀ k, k < n → ∃ x, l[k]? = some x) := Lib.hid fun k hk => ⟨_, List.getElem?_eq_getElem (by omega)⟩
  have He1 := Lib.hid he1
  have hB1 := HBB.out.els he1 hgq
  have e0 : p.hash = ⟨low32 (l.take 0), p.hash.keys, p.hash.vals⟩ := by rw [hp]; rfl
  have hbx0 : PBox w1 q { p with hash := ⟨low32 (l.take 0), p.hash.keys, p.hash.vals⟩ } { v with vs := v.vs } := by rw [← e0]; exact hB1
  have HS0 : Hid (ES g q s p v w1 r2 r3 (l.take 0) v.vs w1) := Lib.hid ⟨hr1, hbx0, by rw [hv]; exact OwnI.nil _ _ _ _, Else2.refl⟩
  have hnm : n ≤ 4096 := hl
  clear hcell hbl ho1 hl hn he1 hr1 Hc hu hp hv hB1 e0 hbx0
  repeat' (first | go_values | go_skip | go_guarded | go_step | go_upon)
  go_loopw [9] (fun s9 wr => ∃ (k : Nat) (vs : Value), s9 = .int .i64 k ∧ k ≤ n ∧ Hid (ES g q s p v w1 r2 r3 (l.take k) vs wr)) (fun s9 _ => n - (intOf s9).toNat)
  case atStart => exact ⟨0, _, rfl, Nat.zero_le _, HS0⟩
  case round =>
    clear HS0
    obtain ⟨k, vs, rfl, hk, HS⟩ := hrel
    by_cases hlt : k < n
    · obtain ⟨x, hx⟩ := HX.out k hlt
      obtain ⟨b, off, rfl, hb, hbw, hc⟩ := Hcell.out k x hlt hx
      obtain ⟨hT1, hT2, hxu⟩ := HT.out k x hx
      have hc' : wr.cell? ⟨b, off + k, none⟩ = some (.int .u64 (x : Nat)) := by rw [World.cell?_of_block (w := w1) (HS.out.els.block b hb (by omega) (by omega))]; exact hc
      have c3 := HS.out.rd.c3
      have f3 := HS.out.rd.free 3
      have hLen := HL.out k hk
      have hsz := HS.out.els.size
      obtain ⟨L, hL⟩ : ∃ L, L = low32 (l.take k) := ⟨_, rfl⟩
      obtain ⟨D, hD⟩ : ∃ D, D = wide32 (l.take k) := ⟨_, rfl⟩
      have hrd := HS.out.rd
      have hbx := HS.out.box
      have how := HS.out.own
      have hel := HS.out.els
      rw [← hD] at hrd c3
      rw [← hL] at hbx how hLen hT1
      obtain ⟨y, hy⟩ : ∃ y, y = x % 4294967296 := ⟨_, rfl⟩
      have hy32 : y < 4294967296 := by omega
      have hand : bits .and .u64 (x : Int) 4294967295 = (y : Int) := by rw [and_low32 x hxu, hy]
      have hw32 : IntKind.u32.wrap (y : Int) = y := wu32 (by omega) (by unfold U32; omega)
      rw [← hy] at hT1
      have HL1 := Lib.hid hT1
      obtain ⟨E', hE⟩ : ∃ E, E = (D || decide (4294967295 < x)) := ⟨_, rfl⟩
      have HD1 : Hid (wide32 (l.take (k + 1)) = E') := Lib.hid (by rw [hT2, ← hD, hE])
      have hcase : ((4294967295 : Int) < x ∧ Hid (E' = true)) ∨ (¬ (4294967295 : Int) < x ∧ Hid (E' = D)) := by
        by_cases hbig : 4294967295 < x
        · exact .inl ⟨by omega, Lib.hid (by rw [hE]; simp [hbig])⟩
        · exact .inr ⟨by omega, Lib.hid (by rw [hE]; simp [hbig])⟩
      clear hL hD hE hT1 hT2 hc hx hy hxu HS
      have HRD := Lib.hid hrd
      have HBX := Lib.hid hbx
      have HOW := Lib.hid how
      have HEL := Lib.hid hel
      clear hrd hbx how hel
      rcases hcase with ⟨hb1, HE'⟩ | ⟨hb1, HE'⟩
      all_goals cases D
      all_goals
        have hs1 := HRD.out.set3 E'
        have hs2 : PBox (wr.setCell ⟨g, 3, none⟩ (.bool E')) q { p with hash := ⟨L, p.hash.keys, p.hash.vals⟩ } { v with vs := vs } := HBX.out.setG hgq
        have hs3 : OwnI w1.heap.size 45 .u32 (wr.setCell ⟨g, 3, none⟩ (.bool E')) vs (nats L) := HOW.out.setG (by omega)
        have hs4 := HEL.out.setG 3 (.bool E')
        rw [HE'.out] at hs1 hs2 hs3 hs4 HD1
        have Hs1 := Lib.hid hs1
        have Hs2 := Lib.hid hs2
        have Hs3 := Lib.hid hs3
        have Hs4 := Lib.hid hs4
        clear hs1 hs2 hs3 hs4 HRD HBX HOW HEL
        repeat' (go_not_at_region 4; first | go_values | go_skip | go_guarded | go_step | go_upon)
        refine gen_wd (fun W => RdAt W g s r2 r3 (wide32 (l.take (k + 1))) ∧ PBox W q { p with hash := ⟨L, p.hash.keys, p.hash.vals⟩ } { v with vs := vs } ∧ OwnI w1.heap.size 45 .u32 W vs (nats L) ∧ Else2 g q w1 W) ⟨by rw [HD1.out]; exact Hs1.out, Hs2.out, Hs3.out, Hs4.out⟩ ?_
        clear Hs1 Hs2 Hs3 Hs4 c3 f3 hc' hb1 hsz
        rintro wx ⟨h1, h2, h3, h4⟩
        have H1 := Lib.hid h1
        have H2 := Lib.hid h2
        have H3 := Lib.hid h3
        have H4 := Lib.hid h4
        have c7 : wx.cell? ⟨q, 7, none⟩ = some vs := h2.cell 7
        have f7 := h2.free 7
        have hsz := h4.size
        clear h1 h2 h3 h4
        repeat' (first | (at_builtin; refine Hid.out ?_) | go_values | go_skip | go_guarded | go_step | go_upon)
        refine Lib.hid ?_
        refine app_ints w1.heap.size 4 [_] Try.underlying25 info_u32L (by decide) rfl _ _ rfl rfl rfl rfl rfl H3.out hsz (by omega) ?_
        intro v1 w2 hown1 hb2 hsz2
        have j1 : RdAt w2 g s r2 r3 (wide32 (l.take (k + 1))) := H1.out.keepB hb2 (by omega)
        have j2 : PBox w2 q { p with hash := ⟨L, p.hash.keys, p.hash.vals⟩ } { v with vs := vs } := by unfold PBox; rw [hb2.block q (by omega)]; exact H2.out
        have j4 : Else2 g q w1 w2 := H4.out.belowB hb2
        have hown2 : OwnI w1.heap.size 45 .u32 w2 v1 (nats (low32 (l.take (k + 1)))) := by rw [HL1.out, nats_append]; exact hown1
        obtain ⟨a1, n1, c1, e1⟩ : ∃ a n c, v1 = .slice a n c := by obtain ⟨a, c, e⟩ := hown1.form; exact ⟨a, _, c, e⟩
        subst e1
        have o7 : w2.cell? ⟨q, 7, none⟩ = some vs := j2.cell 7
        have g7 := j2.free 7
        have J1 := Lib.hid j1
        have J2 := Lib.hid j2
        have J4 := Lib.hid j4
        have Ho2 := Lib.hid hown2
        clear j1 j2 j4 hown1 hown2 hb2 hsz2 H1 H2 H3 H4 c7 f7 hsz
        repeat' (first | go_values | go_skip | go_guarded | go_step | go_upon)
        go_roundw
        case rel => exact ⟨k + 1, _, by go_num, by omega, Lib.hid ⟨J1.out.setQ hgq, J2.out.set7 (.slice a1 n1 c1) ⟨low32 (l.take (k + 1)), p.hash.keys, p.hash.vals⟩, Ho2.out.setG (by omega), J4.out.setQ _ _⟩⟩
        case measure => simp [intOf]; omega
    · obtain rfl : k = n := by omega
      rw [HA.out] at HS
      clear hlt hk HX HA HL HT Hcell
      have h1 := HS.out.rd
      repeat' (first | go_values | go_skip | go_guarded | go_step | go_upon)
      refine Calls.mono (Hx.out r2 r3 (wide32 l) hi _ HS.out.rd) ?_
      rintro _ w2 ⟨vk, rfl, ho2, hr2, he2⟩
      dsimp only
      rw [HY.out] at ho2 hr2
      have B2 := HS.out.box.els he2 hgq
      have hw12 := HS.out.els.size
      have ho2' : OwnI w.heap.size 66 .u64 w2 vk (nats y1) := ho2.base (by omega)
      have hs2 : OwnI w.heap.size 45 .u32 w2 vs (nats (low32 l)) := (OwnC.block HS.out.own fun k hk => he2.block k (OwnC.lt HS.out.own k hk).2 (by have := HS.out.own.below hk; omega)).base hw1
      have E2 : Else2 g q w w2 := ((Else2.of1 He1.out).trans HS.out.els).trans (Else2.of1 he2)
      have hww := E2.size
      obtain ⟨ak, nk, ck, ek⟩ : ∃ a n c, vk = .slice a n c := by obtain ⟨a, c, e⟩ := ho2'.form; exact ⟨a, _, c, e⟩
      subst ek
      have HR2 := Lib.hid hr2
      have HB2 := Lib.hid B2
      have HO2 := Lib.hid ho2'
      have HS2 := Lib.hid hs2
      have HE2 := Lib.hid E2
      clear ho2 hr2 he2 B2 ho2' hs2 E2 h1 HS hw12
      repeat' (first | go_values | go_skip | go_guarded | go_step | go_upon)
      refine Calls.mono (Hx.out y2 y3 (wide32 l) hi2 _ HR2.out) ?_
      rintro _ w3 ⟨vv, rfl, ho3, hr3, he3⟩
      dsimp only
      rw [HZ.out] at ho3 hr3
      have B3 := HB2.out.els he3 hgq
      have ho3' : OwnI w.heap.size 66 .u64 w3 vv (nats z1) := ho3.base hww
      have ok3 : OwnI w.heap.size 66 .u64 w3 (.slice ak nk ck) (nats y1) := OwnC.block HO2.out fun k hk => he3.block k (OwnC.lt HO2.out k hk).2 (by have := HO2.out.below hk; omega)
      have hs3 : OwnI w.heap.size 45 .u32 w3 vs (nats (low32 l)) := OwnC.block HS2.out fun k hk => he3.block k (OwnC.lt HS2.out k hk).2 (by have := HS2.out.below hk; omega)
      have E3 : Else2 g q w w3 := HE2.out.trans (Else2.of1 he3)
      obtain ⟨av, nv, cv, ev⟩ : ∃ a n c, vv = .slice a n c := by obtain ⟨a, c, e⟩ := ho3'.form; exact ⟨a, _, c, e⟩
      subst ev
      have o8 : w3.cell? ⟨q, 8, none⟩ = some v.vk := B3.cell 8
      have o9 : w3.cell? ⟨q, 9, none⟩ = some v.vv := B3.cell 9
      have f8 := B3.free 8
      have f9 := B3.free 9
      have HR3 := Lib.hid hr3
      have HB3 := Lib.hid B3
      have HO3 := Lib.hid ho3'
      have HK3 := Lib.hid ok3
      have HS3 := Lib.hid hs3
      have HE3 := Lib.hid E3
      clear ho3 hr3 he3 B3 ho3' ok3 hs3 E3 HR2 HB2 HO2 HS2 HE2 hww
      repeat' (first | go_values | go_skip | go_guarded | go_step | go_upon)
      go_end0
      exact ⟨rfl, z2, z3, wide32 l, (HR3.out.setQ hgq).setQ hgq, by rw [HE.out], (HE3.out.setQ _ _).setQ _ _, _, _, (HB3.out.set8 (.slice ak nk ck) ⟨low32 l, y1, p.hash.vals⟩).set9 (.slice av nv cv) ⟨low32 l, y1, z1⟩, fun _ => ⟨by rw [HP.out], rfl, (HS3.out.setG hql).setG hql, (HK3.out.setG hql).setG hql, (HO3.out.setG hql).setG hql⟩⟩
end Go.Proofs.Ytbomloodllddaaa
/- Walks: a program that is being read, as it lies in memory; any section is read; how sections are read (load.sections). Conditions: the text is of at most 10^15 bytes; reader and program lie in variables of their own. -/
namespace Go.Proofs.Ytbomloodllddaaa
open Go.RowKit
theorem flat_i64 : ∀ l : List Int, l.flatMap intC = l.map (Value.int .i64)
  | [] => rfl
  | x :: l => by rw [List.flatMap_cons, flat_i64 l]; rfl
theorem flat_u32 : ∀ l : List Nat, l.flatMap u32C = (nats l).map (Value.int .u32)
  | [] => rfl
  | x :: l => by rw [List.flatMap_cons, flat_u32 l]; rfl
theorem flat_u64 : ∀ l : List Nat, l.flatMap u64C = (nats l).map (Value.int .u64)
  | [] => rfl
  | x :: l => by rw [List.flatMap_cons, flat_u64 l]; rfl
theorem own_i64 {B : Nat} {e : TypeId} {w : World} {v : Value} {l : List Int} (h : OwnI B e .i64 w v l) : RowOf intC 1 w v l := by
  have : OwnR intC 1 B e w v l := by
    unfold OwnR
    rw [flat_i64]
    exact h
  exact this.row
theorem own_u32 {B : Nat} {e : TypeId} {w : World} {v : Value} {l : List Nat} (h : OwnI B e .u32 w v (nats l)) : RowOf u32C 1 w v l := by
  have : OwnR u32C 1 B e w v l := by
    unfold OwnR
    rw [flat_u32]
    unfold OwnI at h
    rw [nats_len] at h
    exact h
  exact this.row
theorem own_u64 {B : Nat} {e : TypeId} {w : World} {v : Value} {l : List Nat} (h : OwnI B e .u64 w v (nats l)) : RowOf u64C 1 w v l := by
  have : OwnR u64C 1 B e w v l := by
    unfold OwnR
    rw [flat_u64]
    unfold OwnI at h
    rw [nats_len] at h
    exact h
  exact this.row
/-- a program whose rows are all the call's own -/
structure PrgO (B : Nat) (w : World) (v : PV) (p : Prg) : Prop where
  num : I64 p.grow ∧ I64 p.rest ∧ I64 p.extra ∧ I64 p.signs
  code : OwnR icL 5 B 118 w v.vc p.code
  tabs : TOwn B w v.vt p.tabs
  texts : OwnR strC 1 B 9 w v.vx p.texts
  seeds : OwnI B 45 .u32 w v.vs (nats p.hash.seeds)
  keys : OwnI B 66 .u64 w v.vk (nats p.hash.keys)
  vals : OwnI B 66 .u64 w v.vv (nats p.hash.vals)
  tl : ∀ x ∈ p.texts, x.length ≤ 4096
  sb : ∀ x ∈ p.hash.seeds, x < 4294967296
  kb : AllU64 p.hash.keys
  vb : AllU64 p.hash.vals
theorem OwnC.keepF {B : Nat} {e : TypeId} {sz : Nat} {w w' : World} {v : Value} {n : Nat} {xs : List Value} (h : OwnC B e sz w v n xs) (hb : ∀ k, B ≤ k → k < w.heap.size → w'.heap[k]? = w.heap[k]?) : OwnC B e sz w' v n xs :=
  OwnC.block h fun k hk => hb k (OwnC.lt h k hk).1 (OwnC.lt h k hk).2
theorem PrgO.keepF {B : Nat} {w w' : World} {v : PV} {p : Prg} (h : PrgO B w v p) (hb : ∀ k, B ≤ k → k < w.heap.size → w'.heap[k]? = w.heap[k]?) : PrgO B w' v p :=
  ⟨h.num, OwnC.keepF h.code hb, h.tabs.keepF fun k h1 h2 _ => hb k h1 h2, OwnC.keepF h.texts hb, OwnC.keepF h.seeds hb, OwnC.keepF h.keys hb, OwnC.keepF h.vals hb, h.tl, h.sb, h.kb, h.vb⟩
theorem PrgO.base {B B' : Nat} {w : World} {v : PV} {p : Prg} (h : PrgO B w v p) (hB : B' ≤ B) : PrgO B' w v p := by
  obtain ⟨ts, t1, t2, t3⟩ := h.tabs
  exact ⟨h.num, OwnC.base h.code hB, ⟨ts, OwnC.base t1 hB, t2, fun i t d ht hd => ⟨(t3 i t d ht hd).1, (t3 i t d ht hd).2.1, (t3 i t d ht hd).2.2.base hB⟩⟩, OwnC.base h.texts hB, h.seeds.base hB, h.keys.base hB, h.vals.base hB, h.tl, h.sb, h.kb, h.vb⟩
theorem PrgO.keep {B : Nat} {w w' : World} {v : PV} {p : Prg} (h : PrgO B w v p) (hb : Below w.heap.size w w') : PrgO B w' v p := h.keepF fun k _ hk => hb.block k hk
theorem PrgO.at' {B : Nat} {w : World} {v : PV} {p : Prg} (h : PrgO B w v p) : PrgAt w v p := by
  have gd : ∀ {G : Nat → Prop} (l : List Nat) (k : Nat), G 0 → (∀ y ∈ l, G y) → G (l.getD k 0) := fun {G} l k h0 h => by
    rw [List.getD_eq_getElem?_getD]
    cases e : l[k]? with
    | none => exact h0
    | some y => exact h y (List.mem_of_getElem? e)
  obtain ⟨ts, h1, h2, h3⟩ := h.tabs
  exact ⟨h.num, h.code.row, ⟨ts, h1.row, h2, fun i t d ht hd => ⟨(h3 i t d ht hd).1, (h3 i t d ht hd).2.1, own_i64 (h3 i t d ht hd).2.2⟩⟩, h.texts.row,
    ⟨own_u32 h.seeds, own_u64 h.keys, own_u64 h.vals, fun k => gd _ k (by decide) h.sb, fun k => gd _ k (u64_small (by omega)) h.kb, fun k => gd _ k (u64_small (by omega)) h.vb⟩, fun l hl => by have := h.tl l hl; omega⟩
def pv0 : PV := ⟨.slice none 0 0, .slice none 0 0, .slice none 0 0, .slice none 0 0, .slice none 0 0, .slice none 0 0⟩
theorem prgO_zero (B : Nat) (w : World) : PrgO B w pv0 prg0 :=
  ⟨⟨i64_small (by decide), i64_small (by decide), i64_small (by decide), i64_small (by decide)⟩, OwnR.nil, TOwn.nil _ _, OwnR.nil, OwnI.nil _ _ _ _, OwnI.nil _ _ _ _, OwnI.nil _ _ _ _, by simp [prg0], by simp [prg0], by intro x h; simp [prg0] at h, by intro x h; simp [prg0] at h⟩
/-- what has not been read yet -/
structure NilK (k : Nat) (p : Prg) (v : PV) : Prop where
  tabs : k ≤ 2 → p.tabs = [] ∧ v.vt = .slice none 0 0
  texts : k ≤ 3 → p.texts = [] ∧ v.vx = .slice none 0 0
  hash : k ≤ 4 → p.hash = ⟨[], [], []⟩ ∧ v.vs = .slice none 0 0
def secFn (k : Nat) : Nat := match k with
  | 0 => 76
  | 1 => 78
  | 2 => 80
  | 3 => 83
  | _ => 85
/-- what reading any section comes to -/
def SecAny (g q : Nat) (s : List UInt8) (k : Nat) (p : Prg) (w : World) (e : Ending) (w' : World) : Prop :=
  e = .returned (.tuple #[]) ∧ ∃ a b wd, RdAt w' g s a b wd ∧ errS s.length a b wd = secE k s ∧ Else2 g q w w' ∧ ∃ p' v', PBox w' q p' v' ∧ (secE k s = 0 → p' = secP k s p ∧ PrgO (q + 1) w' v' p' ∧ NilK (k + 1) p' v')
theorem getD_i64 {l : List Int} (h : ∀ x ∈ l, I64 x) (k : Nat) : I64 (l.getD k 0) := by
  rw [List.getD_eq_getElem?_getD]
  cases e : l[k]? with
  | none => exact (show I64 0 from i64_small (by omega))
  | some y => exact h y (List.mem_of_getElem? e)
theorem cutL_i64 (l : List Nat) : ∀ x ∈ cutL l, I64 x := fun x h => by
  obtain ⟨n, _, rfl⟩ := List.mem_map.1 h
  exact cutI_i64 n
theorem low32_lt (l : List Nat) : ∀ x ∈ low32 l, x < 4294967296 := fun x h => by
  obtain ⟨n, _, rfl⟩ := List.mem_map.1 h
  exact Nat.mod_lt _ (by decide)
theorem rdL_u64 (s : List UInt8) (a b most : Int) : AllU64 (rdL s a b most).1 := by
  unfold rdL
  split
  · intro x h; simp at h
  · exact geta_u64 s a most
theorem sec_any (k : Nat) (hk : k < 5) (g q : Nat) (hq : q < g) (s : List UInt8) (hs : s.length ≤ 1000000000000000) (p : Prg) (v : PV) (w : World) (HB : PBox w q p v) (h : RdAt w g s 0 0 false) (ho : PrgO (q + 1) w v p) (hn : NilK k p v)
    (hsep : ∀ w', Else2 g q w w' → PrgO (q + 1) w' v p) :
    Calls Try.prog (secFn k) #[.pointer (some ⟨g, 0, none⟩), .pointer (some ⟨q, 0, none⟩)] w (SecAny g q s k p w) := by
  have hqw : q + 1 ≤ w.heap.size := HB.lt
  have hne : g ≠ q := by omega
  rcases (show k = 0 ∨ k = 1 ∨ k = 2 ∨ k = 3 ∨ k = 4 from by omega) with rfl | rfl | rfl | rfl | rfl
  · refine (sec_one g q hne s hs p v w HB h).mono ?_
    rintro e w' ⟨he, a, b, wd, h1, h2, h3, p', v', h4, h5⟩
    refine ⟨he, a, b, wd, h1, h2, h3, p', v', h4, fun h0 => ?_⟩
    obtain ⟨e1, rfl⟩ := h5 h0
    have hk := hsep w' h3
    have hc := cutL_i64 (sec1L s)
    have c0 := getD_i64 hc 0
    have c1 := getD_i64 hc 1
    have c2 := getD_i64 hc 2
    have c3 := getD_i64 hc 3
    have e2 : secP 0 s p = { p with grow := (cutL (sec1L s)).getD 0 0, rest := (cutL (sec1L s)).getD 1 0, extra := (cutL (sec1L s)).getD 2 0, signs := (cutL (sec1L s)).getD 3 0 } := rfl
    rw [e2] at e1 ⊢
    clear e2 hc
    generalize (cutL (sec1L s)).getD 0 0 = y0 at *
    generalize (cutL (sec1L s)).getD 1 0 = y1 at *
    generalize (cutL (sec1L s)).getD 2 0 = y2 at *
    generalize (cutL (sec1L s)).getD 3 0 = y3 at *
    subst e1
    exact ⟨rfl, ⟨⟨c0, c1, c2, c3⟩, hk.code, hk.tabs, hk.texts, hk.seeds, hk.keys, hk.vals, hk.tl, hk.sb, hk.kb, hk.vb⟩, ⟨fun h => hn.tabs (by omega), fun h => hn.texts (by omega), fun h => hn.hash (by omega)⟩⟩
  · refine (sec_two g q hne s hs p v w HB h).mono ?_
    rintro e w' ⟨he, a, b, wd, h1, h2, h3, p', v', h4, h5⟩
    refine ⟨he, a, b, wd, h1, h2, h3, p', v', h4, fun h0 => ?_⟩
    obtain ⟨e0, e1, h6⟩ := h5 h0
    have hk := hsep w' h3
    have e2 : secP 1 s p = { p with code := (getI s).2 } := rfl
    rw [e2] at e0 ⊢
    clear e2
    generalize (getI s).2 = c at *
    subst e0
    rw [e1]
    exact ⟨rfl, ⟨hk.num, OwnC.base h6 hqw, hk.tabs, hk.texts, hk.seeds, hk.keys, hk.vals, hk.tl, hk.sb, hk.kb, hk.vb⟩, ⟨fun h => hn.tabs (by omega), fun h => hn.texts (by omega), fun h => hn.hash (by omega)⟩⟩
  · refine (sec_three g q hne s hs p v w HB h (hn.tabs (by omega)).1 (hn.tabs (by omega)).2).mono ?_
    rintro e w' ⟨he, a, b, wd, h1, h2, h3, p', v', h4, h5⟩
    refine ⟨he, a, b, wd, h1, h2, h3, p', v', h4, fun h0 => ?_⟩
    obtain ⟨e0, e1, h6⟩ := h5 h0
    have hk := hsep w' h3
    have e2 : secP 2 s p = { p with tabs := (sec3F s).1 } := rfl
    rw [e2] at e0 ⊢
    clear e2
    generalize (sec3F s).1 = c at *
    subst e0
    rw [e1]
    refine ⟨rfl, ⟨hk.num, hk.code, ?_, hk.texts, hk.seeds, hk.keys, hk.vals, hk.tl, hk.sb, hk.kb, hk.vb⟩, ⟨fun h => by omega, fun h => hn.texts (by omega), fun h => hn.hash (by omega)⟩⟩
    obtain ⟨ts, t1, t2, t3⟩ := h6
    exact ⟨ts, OwnC.base t1 hqw, t2, fun i t d ht hd => ⟨(t3 i t d ht hd).1, (t3 i t d ht hd).2.1, (t3 i t d ht hd).2.2.base hqw⟩⟩
  · refine (sec_four g q hne s hs p v w HB h (hn.texts (by omega)).1 (hn.texts (by omega)).2).mono ?_
    rintro e w' ⟨he, a, b, wd, h1, h2, h3, p', v', h4, h5⟩
    refine ⟨he, a, b, wd, h1, h2, h3, p', v', h4, fun h0 => ?_⟩
    obtain ⟨e0, e1, h6, h7⟩ := h5 h0
    have hk := hsep w' h3
    have e2 : secP 3 s p = { p with texts := (sec4F s).1 } := rfl
    rw [e2] at e0 ⊢
    clear e2
    generalize (sec4F s).1 = c at *
    subst e0
    rw [e1]
    exact ⟨rfl, ⟨hk.num, hk.code, hk.tabs, OwnC.base h6 hqw, hk.seeds, hk.keys, hk.vals, h7, hk.sb, hk.kb, hk.vb⟩, ⟨fun h => by omega, fun h => by omega, fun h => hn.hash (by omega)⟩⟩
  · refine (sec_five g q hne s hs p v w HB h (hn.hash (by omega)).1 (hn.hash (by omega)).2).mono ?_
    rintro e w' ⟨he, a, b, wd, h1, h2, h3, p', v', h4, h5⟩
    refine ⟨he, a, b, wd, h1, h2, h3, p', v', h4, fun h0 => ?_⟩
    obtain ⟨e0, e1, h6, h7, h8⟩ := h5 h0
    have hk := hsep w' h3
    have e2 : secP 4 s p = { p with hash := ⟨low32 (seedF s).1, (keyF s).1, (valF s).1⟩ } := rfl
    have u1 : AllU64 (keyF s).1 := by unfold keyF; exact rdL_u64 _ _ _ _
    have u2 : AllU64 (valF s).1 := by unfold valF; exact rdL_u64 _ _ _ _
    have u0 := low32_lt (seedF s).1
    rw [e2] at e0 ⊢
    clear e2
    generalize low32 (seedF s).1 = c0 at *
    generalize (keyF s).1 = c1 at *
    generalize (valF s).1 = c2 at *
    subst e0
    rw [e1]
    exact ⟨rfl, ⟨hk.num, hk.code, hk.tabs, hk.texts, h6.base hqw, h7.base hqw, h8.base hqw, hk.tl, u0, u1, u2⟩, ⟨fun h => by omega, fun h => by omega, fun h => by omega⟩⟩
def howC : Array Value := #[.int .u64 1, .func (.func 76) #[] #[], .int .u64 2, .func (.func 78) #[] #[], .int .u64 3, .func (.func 80) #[] #[], .int .u64 4, .func (.func 83) #[] #[], .int .u64 5, .func (.func 85) #[] #[]]
set_option maxRecDepth 100000 in
theorem load_sections (w : World) : Calls Try.prog 38 #[] w fun e w' => e = .returned (.slice (some ⟨w.heap.size, 0, none⟩) 5 5) ∧ w'.heap[w.heap.size]? = some (.cells howC 80 (0, 0)) ∧ Below w.heap.size w w' := by
  go_enter Try.func38, Try.ntmps38
  repeat' (first | go_values | go_skip | go_guarded | go_step | go_upon)
  go_ret
  exact ⟨rfl, Go.heap_alloc_new _ _, (Below.refl _ _).alloc (Nat.le_refl _) _⟩
end Go.Proofs.Ytbomloodllddaaa
/- Walk: fretsawlaw25.few ends, with some answer. Condition: the program lies in memory. -/
namespace Go.Proofs.Ytbomloodllddaaa
open Go.RowKit
set_option maxRecDepth 100000 in
set_option maxHeartbeats 2000000 in
theorem law_few25 (p : Prg) (v : PV) (w : World) (H : PrgAt w v p) : Calls Try.prog 10 #[pgV p v] w fun e w' => ∃ c, e = .returned (.bool c) ∧ Below w.heap.size w w' := by
  have HH := Lib.hid H
  obtain ⟨ac, cc, hvc, hcc, hmc, _⟩ := H.code.open icL_len
  obtain ⟨ax, cx, hvx, hcx, hmx, hcellx⟩ := H.texts.open strC_len25
  obtain ⟨ts, hts, htl, htr⟩ := H.tabs
  obtain ⟨at', ct, hvt, hct, hmt, hcellt⟩ := hts.open (f := tbC) (sz := 2) (fun _ => rfl)
  have HTL := Lib.hid H.tl
  obtain ⟨vc, vt, vx, vs, vk, vv⟩ := v
  dsimp only at hvc hvt hvx
  subst hvc hvt hvx
  obtain ⟨n, hn⟩ : ∃ n, n = p.code.length := ⟨_, rfl⟩
  obtain ⟨m, hm⟩ : ∃ m, m = ts.length := ⟨_, rfl⟩
  obtain ⟨x, hx⟩ : ∃ m, m = p.texts.length := ⟨_, rfl⟩
  have HP : Hid (PBox (w.alloc (.cells (pgC p ⟨.slice ac p.code.length cc, .slice at' ts.length ct, .slice ax p.texts.length cx, vs, vk, vv⟩) 30)) w.heap.size p ⟨.slice ac p.code.length cc, .slice at' ts.length ct, .slice ax p.texts.length cx, vs, vk, vv⟩) := Lib.hid (PBox.new _ _ _)
  have Hb0 : Hid (Below w.heap.size w (w.alloc (.cells (pgC p ⟨.slice ac p.code.length cc, .slice at' ts.length ct, .slice ax p.texts.length cx, vs, vk, vv⟩) 30))) := Lib.hid ((Below.refl _ _).alloc (Nat.le_refl _) _)
  have hmb : m ≤ 9223372036854775807 := by unfold maxLen at hmt; omega
  have hxb : x ≤ 9223372036854775807 := by unfold maxLen at hmx; omega
  have Hm := Lib.hid hm
  have Hx := Lib.hid hx
  rw [← hn, ← hm, ← hx] at HP Hb0
  rw [← hn, ← hm, ← hx]
  have Hts := Lib.hid htr
  have Htl := Lib.hid htl
  have Hct := Lib.hid hcellt
  have Hcx := Lib.hid hcellx
  clear hn hm hx htr htl hcellt hcellx hts hct hmt hcc hmc hcx hmx H HH
  go_enter Try.func10, Try.ntmps10
  repeat' (go_not_at_region 1; first | go_values | go_skip | go_guarded | go_step | go_upon)
  refine gen_world (fun w' => PBox w' w.heap.size p ⟨.slice ac n cc, .slice at' m ct, .slice ax x cx, vs, vk, vv⟩ ∧ Below w.heap.size w w') ⟨HP.out, Hb0.out⟩ ?_
  clear HP Hb0
  rintro wa ⟨j1, j2⟩
  have J1 := Lib.hid j1
  have J2 := Lib.hid j2
  have c4 := j1.cell 4
  have c5 := j1.cell 5
  clear j1 j2
  repeat' (first | go_values | go_skip | go_guarded | go_step | go_upon)
  clear c4 c5
  go_loopw [3, 14] (fun s3 s14 wr => ∃ (k : Nat) (u : Int), s14 = .int .i64 k ∧ s3 = .int .i64 u ∧ k ≤ m ∧ Hid (PBox wr w.heap.size p ⟨.slice ac n cc, .slice at' m ct, .slice ax x cx, vs, vk, vv⟩) ∧ Hid (Below w.heap.size w wr)) (fun _ s14 _ => m - (intOf s14).toNat)
  case atStart => exact ⟨0, _, rfl, rfl, Nat.zero_le _, J1, J2⟩
  case round =>
    clear J1 J2
    obtain ⟨k, u, rfl, rfl, hk, J1, J2⟩ := hrel
    by_cases hlt : k < m
    · have hktl : k < p.tabs.length := by rw [← Htl.out, ← Hm.out]; exact hlt
      have hkts : k < ts.length := by rw [← Hm.out]; exact hlt
      have hti : ts[k]? = some ts[k] := List.getElem?_eq_getElem hkts
      obtain ⟨e1, _, hrow⟩ := Hts.out k _ _ hti (List.getElem?_eq_getElem hktl)
      rcases Hct.out with h0 | ⟨bt, ot, hat, hbt, hclt⟩
      · have := Hm.out; omega
      subst hat
      obtain ⟨t0, t1⟩ := tab_cells hclt hti
      generalize p.tabs[k] = tab at *
      obtain ⟨q, dl⟩ := tab
      generalize ts[k] = tt at *
      obtain ⟨q', vd⟩ := tt
      dsimp only at e1 hrow t0 t1
      obtain ⟨ad, cd, hvd, hcd, hmd⟩ := hrow.slice
      subst hvd e1
      rw [← J2.out.cell (show bt < w.heap.size from hbt)] at t0 t1
      have hb4 : Below wr.heap.size wr (wr.alloc (.cells #[.int .i64 q', .slice ad dl.length cd] 54)) := (Below.refl _ _).alloc (Nat.le_refl _) _
      have K1 := Lib.hid (J1.out.keep hb4)
      have K2 := Lib.hid (J2.out.trans (hb4.mono J2.out.size))
      clear hrow hcd hmd hti hclt hb4 J1 J2
      repeat' (first | go_values | go_skip | go_guarded | go_step | go_upon)
      go_roundw
      case rel => exact ⟨k + 1, _, by go_num, rfl, hlt, K1, K2⟩
      case measure => simp [intOf]; omega
    · obtain rfl : k = m := by omega
      have c6 := J1.out.cell 6
      repeat' (first | go_values | go_skip | go_guarded | go_step | go_upon)
      clear c6
      go_loopw [3, 27] (fun s3 s27 wr => ∃ (k : Nat) (u : Int), s27 = .int .i64 k ∧ s3 = .int .i64 u ∧ k ≤ x ∧ Hid (Below w.heap.size w wr)) (fun _ s27 _ => x - (intOf s27).toNat)
      case atStart => exact ⟨0, _, rfl, rfl, Nat.zero_le _, J2⟩
      case round =>
        clear J1 J2
        obtain ⟨k, u, rfl, rfl, hk, J2⟩ := hrel
        by_cases hlt : k < x
        · have hkx : k < p.texts.length := by rw [← Hx.out]; exact hlt
          rcases Hcx.out with h0 | ⟨bt, ot, hat, hbt, hclt⟩
          · have := Hx.out; omega
          subst hat
          have t0 := hclt k _ 0 (List.getElem?_eq_getElem hkx) (by decide)
          rw [Nat.mul_one, Nat.add_zero] at t0
          have tl := HTL.out _ (List.getElem_mem hkx)
          generalize p.texts[k] = tx at *
          have t1 : wr.cell? ⟨bt, ot + k, none⟩ = some (.string ⟨tx.toArray⟩) := by rw [J2.out.cell (show bt < w.heap.size from hbt)]; exact t0
          clear t0 hclt
          repeat' (first | go_values | go_skip | go_guarded | go_step | go_upon)
          go_roundw
          case rel => exact ⟨k + 1, _, by go_num, rfl, hlt, J2⟩
          case measure => simp [intOf]; omega
        · obtain rfl : k = x := by omega
          repeat' (first | go_values | go_skip | go_guarded | go_step | go_upon)
          go_ret
          exact ⟨_, rfl, J2.out⟩
end Go.Proofs.Ytbomloodllddaaa
