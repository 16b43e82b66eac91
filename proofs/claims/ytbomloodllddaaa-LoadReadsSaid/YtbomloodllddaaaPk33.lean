/- Walks: the reader of a pack (number, text, must). Conditions: the text is of at most 10^15 bytes; the place is an int. -/
import Derived.Test.YtbomloodllddaaaPk26
import Derived.Test.YtbomloodllddaaaPk09
import Derived.Test.YtbomloodllddaaaPk03
namespace Go.Proofs.Ytbomloodllddaaa
open Go.RowKit
/-- a reader: its text, its place, what is wrong -/
def RdrAt (w : World) (g : Nat) (s : List UInt8) (at' bad : Int) : Prop := w.heap[g]? = some (.cells #[.string ⟨s.toArray⟩, .int .i64 at', .int .i64 bad] 143 (0, 0))
section
variable {w : World} {g : Nat} {s : List UInt8} {at' bad : Int}
theorem RdrAt.c0 (h : RdrAt w g s at' bad) : w.cell? ⟨g, 0, none⟩ = some (.string ⟨s.toArray⟩) := by rw [cell_of_row w g 0 _ _ _ h]; rfl
theorem RdrAt.c1 (h : RdrAt w g s at' bad) : w.cell? ⟨g, 1, none⟩ = some (.int .i64 at') := by rw [cell_of_row w g 1 _ _ _ h]; rfl
theorem RdrAt.c2 (h : RdrAt w g s at' bad) : w.cell? ⟨g, 2, none⟩ = some (.int .i64 bad) := by rw [cell_of_row w g 2 _ _ _ h]; rfl
theorem RdrAt.free (h : RdrAt w g s at' bad) (k : Nat) : w.frozen? ⟨g, k, none⟩ = false := frozen_of_row _ _ _ _ _ h
theorem RdrAt.lt (h : RdrAt w g s at' bad) : g < w.heap.size := (Array.getElem?_eq_some_iff.1 h).1
theorem RdrAt.keep {w' : World} (h : RdrAt w g s at' bad) (hb : Below w.heap.size w w') : RdrAt w' g s at' bad := by unfold RdrAt; rw [hb.block g h.lt]; exact h
theorem RdrAt.set1 (h : RdrAt w g s at' bad) (x : Int) : RdrAt (w.setCell ⟨g, 1, none⟩ (.int .i64 x)) g s x bad := by
  unfold RdrAt; rw [setCell_eq_setRow _ _ _ _ _ _ _ h, setRow_heap _ _ _ _ _ _ h]; simp
theorem RdrAt.set2 (h : RdrAt w g s at' bad) (x : Int) : RdrAt (w.setCell ⟨g, 2, none⟩ (.int .i64 x)) g s at' x := by
  unfold RdrAt; rw [setCell_eq_setRow _ _ _ _ _ _ _ h, setRow_heap _ _ _ _ _ _ h]; simp
end
set_option maxRecDepth 100000 in
set_option maxHeartbeats 400000 in
theorem rdr_number (g : Nat) (s : List UInt8) (hs : s.length ≤ 1000000000000000) (at' bad : Int) (ha : I64 at') (w : World) (h : RdrAt w g s at' bad) :
    Calls Try.prog 73 #[.pointer (some ⟨g, 0, none⟩)] w fun e w' => e = .returned (.int .u64 ((rdNum s at' bad).1 : Nat)) ∧ RdrAt w' g s (rdNum s at' bad).2.1 (rdNum s at' bad).2.2 ∧ Else g w w' := by
  unfold rdNum
  by_cases h0 : bad = 0
  · subst h0
    rw [if_neg (by simp)]
    have hc := wire_Get ⟨s.toArray⟩ (by rw [ba_size]; exact hs) at' ha
    have hd : (⟨s.toArray⟩ : ByteArray).data.toList = s := rfl
    rw [hd] at hc
    clear hd
    generalize vget s at' = r at hc ⊢
    obtain ⟨r1, r2, r3⟩ := r
    dsimp only at hc ⊢
    have Hc := Lib.hid hc; clear hc
    have c2 := h.c2
    have q0 : ∀ nq : WB w, nq.1.cell? ⟨g, 0, none⟩ = some (.string ⟨s.toArray⟩) := fun nq => (h.keep nq.2).c0
    have q1 : ∀ nq : WB w, nq.1.cell? ⟨g, 1, none⟩ = some (.int .i64 at') := fun nq => (h.keep nq.2).c1
    have H := Lib.hid h; clear h
    go_enter Try.func73, Try.ntmps73
    repeat' (first | go_values | go_skip | go_guarded | go_step | go_upon)
    refine wp_region_wb (by kernel_rfl) (by kernel_rfl) w (Below.refl _ _) ?_
    repeat (go_big_quiet_step ((go_at_call 107; exact calls_wb_same (Hc.out _))))
    refine wpQuiet_nil ?_
    rintro _ ⟨nq, rfl⟩
    have hnq := nq.2
    clear q0 q1
    have Hn := Lib.hid (H.out.keep hnq)
    have n1 := Hn.out.c1
    have n2 := Hn.out.c2
    have f1 := Hn.out.free 1
    have f2 := Hn.out.free 2
    have He := Lib.hid (Else.of_below (g := g) hnq)
    clear hnq c2 H
    repeat' (first | go_values | go_skip | go_guarded | go_step | go_upon)
    go_ret
    exact ⟨rfl, (Hn.out.set1 _).set2 _, (He.out.setCell _ _).setCell _ _⟩
  · rw [if_pos h0]
    have c2 := h.c2
    have h0' : (bad == 0) = false := by simpa using h0
    have h0'' : (bad != 0) = true := by simpa using h0
    have H := Lib.hid h; clear h
    go_enter Try.func73, Try.ntmps73
    repeat' (first | go_values | go_skip | go_guarded | go_step | go_upon)
    go_ret
    exact ⟨rfl, H.out, Else.refl _ _⟩
set_option maxRecDepth 100000 in
set_option maxHeartbeats 400000 in
theorem rdr_text (g : Nat) (s : List UInt8) (hs : s.length ≤ 1000000000000000) (at' bad : Int) (ha : I64 at') (w : World) (h : RdrAt w g s at' bad) :
    Calls Try.prog 74 #[.pointer (some ⟨g, 0, none⟩)] w fun e w' => e = .returned (.string ⟨(rdText s at' bad).1.toArray⟩) ∧ RdrAt w' g s (rdText s at' bad).2.1 (rdText s at' bad).2.2 ∧ Else g w w' := by
  unfold rdText
  by_cases h0 : bad = 0
  · subst h0
    rw [if_neg (by simp)]
    have hc := wire_GetText ⟨s.toArray⟩ (by rw [ba_size]; exact hs) at' ha 8388608 (i64_small (by omega))
    have hd : (⟨s.toArray⟩ : ByteArray).data.toList = s := rfl
    rw [hd] at hc
    clear hd
    generalize gett s at' 8388608 = r at hc ⊢
    obtain ⟨r1, r2, r3⟩ := r
    dsimp only at hc ⊢
    have Hc := Lib.hid hc; clear hc
    have c2 := h.c2
    have q0 : ∀ nq : WB w, nq.1.cell? ⟨g, 0, none⟩ = some (.string ⟨s.toArray⟩) := fun nq => (h.keep nq.2).c0
    have q1 : ∀ nq : WB w, nq.1.cell? ⟨g, 1, none⟩ = some (.int .i64 at') := fun nq => (h.keep nq.2).c1
    have H := Lib.hid h; clear h
    go_enter Try.func74, Try.ntmps74
    repeat' (first | go_values | go_skip | go_guarded | go_step | go_upon)
    refine wp_region_wb (by kernel_rfl) (by kernel_rfl) w (Below.refl _ _) ?_
    repeat (go_big_quiet_step ((go_at_call 108; exact calls_wb_same (Hc.out _))))
    refine wpQuiet_nil ?_
    rintro _ ⟨nq, rfl⟩
    have hnq := nq.2
    clear q0 q1
    have Hn := Lib.hid (H.out.keep hnq)
    have n1 := Hn.out.c1
    have n2 := Hn.out.c2
    have f1 := Hn.out.free 1
    have f2 := Hn.out.free 2
    have He := Lib.hid (Else.of_below (g := g) hnq)
    clear hnq c2 H
    repeat' (first | go_values | go_skip | go_guarded | go_step | go_upon)
    go_ret
    exact ⟨rfl, (Hn.out.set1 _).set2 _, (He.out.setCell _ _).setCell _ _⟩
  · rw [if_pos h0]
    have c2 := h.c2
    have h0' : (bad == 0) = false := by simpa using h0
    have h0'' : (bad != 0) = true := by simpa using h0
    have H := Lib.hid h; clear h
    go_enter Try.func74, Try.ntmps74
    repeat' (first | go_values | go_skip | go_guarded | go_step | go_upon)
    go_ret
    exact ⟨rfl, H.out, Else.refl _ _⟩
set_option maxRecDepth 100000 in
set_option maxHeartbeats 400000 in
theorem rdr_must (g : Nat) (s : List UInt8) (at' bad : Int) (ok : Bool) (x : Int) (w : World) (h : RdrAt w g s at' bad) :
    Calls Try.prog 75 #[.pointer (some ⟨g, 0, none⟩), .bool ok, .int .i64 x] w fun e w' => e = .returned (.tuple #[]) ∧ RdrAt w' g s at' (rdMust ok x bad) ∧ Else g w w' := by
  unfold rdMust
  have c2 := h.c2
  have f2 := h.free 2
  have H := Lib.hid h; clear h
  by_cases h0 : bad = 0
  · subst h0
    cases ok
    · rw [if_pos ⟨rfl, rfl⟩]
      go_enter Try.func75, Try.ntmps75
      repeat' (first | go_values | go_skip | go_guarded | go_step | go_upon)
      go_end0
      exact ⟨rfl, H.out.set2 _, (Else.refl _ _).setCell _ _⟩
    · rw [if_neg (by simp)]
      go_enter Try.func75, Try.ntmps75
      repeat' (first | go_values | go_skip | go_guarded | go_step | go_upon)
      go_end0
      exact ⟨rfl, H.out, Else.refl _ _⟩
  · rw [if_neg (by simp [h0])]
    have h0' : (bad == 0) = false := by simpa using h0
    go_enter Try.func75, Try.ntmps75
    repeat' (first | go_values | go_skip | go_guarded | go_step | go_upon)
    go_end0
    exact ⟨rfl, H.out, Else.refl _ _⟩
end Go.Proofs.Ytbomloodllddaaa
/- Walks: a pack is read (pack.Get, fretsawref04.Get). Condition: the text is of at most 10^15 bytes. -/
namespace Go.Proofs.Ytbomloodllddaaa
open Go.RowKit
theorem arr_size (t : List UInt8) : (⟨t.toArray⟩ : ByteArray).size = t.length := by simp [ByteArray.size]
theorem arr_extract (t : List UInt8) (i j : Nat) : (⟨t.toArray⟩ : ByteArray).extract i j = ⟨((t.drop i).take (j - i)).toArray⟩ := ba_extract _ i j
theorem RdC.nil {α : Type} {f : α → List Value} {sz : Nat} {w : World} : RowOf f sz w (.slice none 0 0) ([] : List α) := ⟨none, 0, rfl, Nat.le_refl _, Nat.zero_le _, by simp, .inl rfl⟩
theorem prefix_beg (t : List UInt8) : Lib.hasPrefix t [70, 83, 65, 87, 1] = decide (t.take 5 = begB) := by
  rw [Bool.eq_iff_iff]
  unfold Lib.hasPrefix
  rw [List.isPrefixOf_iff_prefix, decide_eq_true_iff, List.prefix_iff_eq_take]
  simp [begB, eq_comm]
theorem has_beg (t : List UInt8) (w : World) : Calls Try.prog 72 #[.string ⟨t.toArray⟩, .string ⟨#[70, 83, 65, 87, 1]⟩] w fun e w' => e = .returned (.bool (Lib.hasPrefix t [70, 83, 65, 87, 1])) ∧ w = w' :=
  (Try.strings_HasPrefix ⟨t.toArray⟩ ⟨#[70, 83, 65, 87, 1]⟩ w).mono fun _ _ ⟨h1, h2⟩ => ⟨h1, h2.symm⟩
theorem info_sec : (Try.prog.info? 70).map (fun i => (i.zero, i.size, i.bytes)) = some (some (.agg #[.int .u64 0, .string ⟨#[]⟩]), 2, 24) := by kernel_rfl
set_option maxRecDepth 100000 in
set_option maxHeartbeats 2000000 in
theorem pack_Get (t : List UInt8) (hs : t.length ≤ 1000000000000000) (w : World) :
    Calls Try.prog 37 #[.string ⟨t.toArray⟩] w fun e w' => ∃ v, e = .returned (.tuple #[v, .int .i64 (getP t).2]) ∧ RowOf secC 2 w' v (getP t).1 ∧ Below w.heap.size w w' := by
  obtain ⟨G, hG⟩ : ∃ G, getP t = G := ⟨_, rfl⟩
  rw [hG]
  have HG := Lib.hid hG; clear hG
  have hsz := arr_size t
  by_cases h9 : t.length < 9
  · have e : G = ([], 20) := by rw [← HG.out]; unfold getP; rw [if_pos h9]
    subst e
    go_enter Try.func37, Try.ntmps37
    repeat' (first | go_values | go_skip | go_guarded | go_step | go_upon)
    go_ret2
    exact ⟨_, rfl, RdC.nil, Below.refl _ _⟩
  obtain ⟨n, hn⟩ : ∃ n, t.length - 4 = n := ⟨_, rfl⟩
  have hnl : t.length = n + 4 := by omega
  have hnI : (t.length : Int) - 4 = n := by omega
  have hn5 : 5 ≤ n := by omega
  have hex1 : (⟨t.toArray⟩ : ByteArray).extract n t.length = ⟨(t.drop n).toArray⟩ := by rw [arr_extract, List.take_of_length_le (by simp)]
  have hex2 : (⟨t.toArray⟩ : ByteArray).extract 0 n = ⟨(t.take n).toArray⟩ := by rw [arr_extract, List.drop_zero, Nat.sub_zero]
  have hpre := prefix_beg t
  have HG2 : Hid (G = if t.take 5 ≠ begB then ([], 40) else if t.drop n ≠ put4 (sumOn 0 (t.take n)) then ([], 41) else if (vget (t.take n) 5).2.2 ≠ 0 then ([], (vget (t.take n) 5).2.2) else if 64 < (vget (t.take n) 5).1 then ([], 2) else finP n (secsF (t.take n) (vget (t.take n) 5).1 none (vget (t.take n) 5).2.1)) := Lib.hid (by
    rw [← HG.out]; unfold getP; rw [if_neg h9, hn]; rfl)
  clear HG
  have Hnl := Lib.hid hnl
  have hln : n ≤ t.length := by omega
  have Htk : Hid ((t.take n).length = n) := Lib.hid (by rw [List.length_take]; omega)
  clear hn hnl
  by_cases h5 : t.take 5 = begB
  · have hpt : Lib.hasPrefix t [70, 83, 65, 87, 1] = true := by rw [hpre]; simpa using h5
    clear hpre
    rw [if_neg (by simpa using h5)] at HG2
    clear h5
    have Hsum := Lib.hid (fun w => sum_Of ⟨(t.take n).toArray⟩ (by rw [arr_size]; rw [Htk.out]; omega) w)
    have Hput := Lib.hid (fun w => wire_PutFour (sumOn 0 (t.take n)) w)
    generalize t.take n = s at hex2 HG2 Htk Hsum Hput
    by_cases hq : t.drop n = put4 (sumOn 0 s)
    · have hqb : (t.drop n == put4 (sumOn 0 s)) = true := by simpa using hq
      rw [if_neg (by simpa using hq)] at HG2
      clear hq
      go_enter Try.func37, Try.ntmps37
      repeat' (first | go_values | go_skip | go_guarded | go_step | go_upon)
      refine Calls.mono (has_beg t _) ?_
      rintro _ _ ⟨rfl, rfl⟩
      dsimp only
      repeat' (first | go_values | go_skip | go_guarded | go_step | go_upon)
      refine wp_region_wb (by kernel_rfl) (by kernel_rfl) w (Below.refl _ _) ?_
      repeat (go_big_quiet_step ((first | (go_at_call 67; with_reducible exact calls_wb (Hsum.out _)) | (go_at_call 66; with_reducible exact calls_wb (Hput.out _)))))
      refine wpQuiet_nil ?_
      rintro _ ⟨nq, rfl⟩
      have hnq := nq.2
      clear hqb Hsum Hput hpt hex1
      obtain ⟨wy, hwy⟩ : ∃ wy : World, wy = nq.1 := ⟨_, rfl⟩
      have Hby := Lib.hid hnq
      rw [← hwy] at Hby ⊢
      clear hwy hnq
      have hr0 : RdrAt (wy.alloc (.cells #[.string ⟨s.toArray⟩, .int .i64 5, .int .i64 0] 143)) wy.heap.size s 5 0 := Go.heap_alloc_new _ _
      have Hr0 := Lib.hid hr0; clear hr0
      have hsl : s.length ≤ 1000000000000000 := by rw [Htk.out]; omega
      obtain ⟨p, hp⟩ : ∃ p, vget s 5 = p := ⟨_, rfl⟩
      obtain ⟨many, a0, b0⟩ := p
      have Hnum := Lib.hid (rdr_number wy.heap.size s hsl 5 0 (i64_small (by omega)) _ Hr0.out)
      rw [show rdNum s 5 0 = (many, a0, b0) from by unfold rdNum; rw [if_neg (by simp), hp]] at Hnum
      have Hst := Lib.hid (GInv.start (G := G) (n := n) hsl hp (by rw [HG2.out, hp]))
      clear HG2 hp
      have hgw := Hby.out.size
      repeat' (first | go_values | go_skip | go_guarded | go_step | go_upon)
      refine Calls.mono (Hnum.out) ?_
      rintro _ w1 ⟨rfl, hr1, he1⟩
      dsimp only
      dsimp only at hr1
      have Hb1 := Lib.hid (Hby.out.trans (((Below.refl _ _).alloc (Nat.le_refl _) _).trans (he1.below (Nat.le_refl _) (by simp)) |>.mono hgw))
      have Hr1 := Lib.hid hr1
      clear Hnum he1 hr1
      repeat' (first | go_values | go_skip | go_guarded | go_step | go_upon)
      refine Calls.mono (rdr_must wy.heap.size s a0 b0 _ 2 w1 Hr1.out) ?_
      rintro _ w2 ⟨rfl, hr2, he2⟩
      dsimp only
      rw [show decide ((many : Int) ≤ 64) = decide (many ≤ 64) from by rw [Bool.eq_iff_iff]; simp; omega] at hr2
      have Hb2 := Lib.hid (Hb1.out.trans (he2.below hgw Hr1.out.lt))
      generalize rdMust (decide (many ≤ 64)) 2 b0 = b2 at hr2 Hst
      have Hr2 := Lib.hid hr2
      clear hr2 he2 Hb1 Hr1
      repeat' (first | go_values | go_skip | go_guarded | go_step | go_upon)
      go_loopw [9, 10, 11, 12] (fun s9 s10 s11 _ w' => ∃ (k : Nat) (acc : List Sec) (at' bad : Int), s10 = .int .i64 (sizeS acc : Nat) ∧ s11 = .int .u64 k ∧ Hid (OwnR secC 2 w.heap.size 70 w' s9 acc) ∧ Hid (RdrAt w' wy.heap.size s at' bad) ∧ Hid (GInv G n s many k acc at' bad) ∧ Hid (Below w.heap.size w w')) (fun _ _ s11 _ _ => many - (intOf s11).toNat)
      case atStart => exact ⟨0, [], a0, b2, rfl, rfl, Lib.hid OwnR.nil, Hr2, Hst, Hb2⟩
      case round =>
        clear Hr2 Hst Hb2
        obtain ⟨k, acc, at', bad, rfl, rfl, Ho, Hr, Hi, Hb⟩ := hrel
        by_cases hgo : k < many ∧ bad = 0
        · obtain ⟨hkm, rfl⟩ := hgo
          have hm64 := (Hi.out.good rfl).1
          have c2 := Hr.out.c2
          obtain ⟨q, hq⟩ : ∃ q, rdNum s at' 0 = q := ⟨_, rfl⟩
          obtain ⟨n1, a1, b1⟩ := q
          have Hnum := Lib.hid (rdr_number wy.heap.size s hsl at' 0 Hi.out.place wr Hr.out)
          rw [hq] at Hnum
          have Hq := Lib.hid hq; clear hq
          obtain ⟨wo, hwo⟩ : ∃ wo : World, wo = wr := ⟨_, rfl⟩
          subst hwo
          repeat' (first | go_values | go_skip | go_guarded | go_step | go_upon)
          refine Calls.mono (Hnum.out) ?_
          rintro _ w1 ⟨rfl, hr1, he1⟩
          dsimp only
          dsimp only at hr1
          have Ho1 := Lib.hid (Ho.out.els he1 Hr.out (by decide))
          have Hb1 := Lib.hid (Hb.out.trans (he1.below hgw Hr.out.lt))
          have Hr1 := Lib.hid hr1
          have hob : ∀ k, u9.ownBlock = some k → k < w1.heap.size := fun k hk => (Ho1.out.below hk).2
          have Hob := Lib.hid hob
          clear Hnum he1 hr1 c2 hob
          have h3 : ∃ q, rdText s a1 (rdMust (okAfter acc n1) 21 b1) = q := ⟨_, rfl⟩
          obtain ⟨q, hq⟩ := h3
          obtain ⟨bd, a3, b3⟩ := q
          have Hq3 := Lib.hid hq; clear hq
          have Hnx := Lib.hid (Hi.out.step hsl hkm Hq.out rfl Hq3.out)
          have hbdl : bd.length ≤ 8388608 := by
            have h1 := Hnx.out.size
            have h2 := Hi.out.size
            have h3 := Hq3.out
            unfold rdText at h3
            split at h3
            · simp only [Prod.mk.injEq] at h3; obtain ⟨rfl, _⟩ := h3; simp
            · have := gett_len s a1; rw [h3] at this; exact this
          have hva : I64 a1 := by
            have h1 := Hq.out
            unfold rdNum at h1
            rw [if_neg (by simp)] at h1
            have := vget_i64 hsl at'
            rw [h1] at this; exact this
          have hal := Hi.out.len
          have hss := Hi.out.size
          have Hal := Lib.hid hal; clear hal
          have Hva := Lib.hid hva; clear hva
          repeat' (first | go_values | go_skip | go_guarded | go_step | go_upon)
          refine gen_worldP (fun w' => Box2 w1 w' (.int .u64 n1) (.string ⟨#[]⟩) 70) (Box2.alloc w1 _ _ _) ?_
          rintro wx ⟨hbx, hx⟩
          have Hbx := Lib.hid hbx
          have Hx := Lib.hid hx
          clear hbx hx
          have Hox := Lib.hid (Ho1.out.keep Hbx.out (Nat.le_refl _))
          have Hrx := Lib.hid (Hr1.out.keep Hbx.out)
          have Hbbx := Lib.hid (Hb1.out.trans (Hbx.out.mono Hb1.out.size))
          have hgx : w1.heap.size ≠ wy.heap.size := by have := Hr1.out.lt; omega
          have q0 : ∀ nq : WB wx, nq.1.cell? ⟨w1.heap.size, 0, none⟩ = some (.int .u64 n1) := fun nq => two_c0 (heap_keep Hx.out nq.2)
          have hcase : (k = 0 ∧ okAfter acc n1 = true) ∨ ∃ i g cap prev, k = i + 1 ∧ u9 = .slice (some ⟨g, 0, none⟩) (i + 1) cap ∧ (∀ nq : WB wx, nq.1.cell? ⟨g, i * 2, none⟩ = some (.int .u64 (prev : Nat))) ∧ okAfter acc n1 = decide (prev < n1) ∧ (i + 1 ≤ cap ∧ cap ≤ maxLen) := by
            rcases Nat.eq_zero_or_pos k with h0 | h0
            · refine .inl ⟨h0, ?_⟩
              have : acc = [] := List.eq_nil_of_length_eq_zero (by rw [Hal.out]; exact h0)
              subst this; rfl
            · obtain ⟨i, rfl⟩ : ∃ i, k = i + 1 := ⟨k - 1, by omega⟩
              obtain ⟨g, cap, hv⟩ := Hox.out.somewhere (by rw [Hal.out]; omega)
              obtain ⟨_, _, hv2, hv3, hv4⟩ := Hox.out.form
              rw [hv] at hv2
              simp only [Value.slice.injEq] at hv2
              obtain ⟨_, _, rfl⟩ := hv2
              rw [Hal.out] at hv hv3
              have hx : acc[i]? = some (acc.getD i (0, [])) := by rw [List.getD_eq_getElem?_getD, List.getElem?_eq_getElem (by rw [Hal.out]; omega)]; rfl
              refine .inr ⟨i, g, cap, (acc.getD i (0, [])).1, rfl, hv, fun nq => ?_, ?_, hv3, hv4⟩
              · have ho := Hox.out.keep nq.2 (Nat.le_refl _)
                rw [hv] at ho
                have := ho.cellAt secC_len i _ 0 hx (by omega)
                simpa [secC] using this
              · unfold okAfter lastK
                rw [List.getLast?_eq_getElem?, Hal.out, Nat.add_sub_cancel, hx]
                rfl
          rcases hcase with ⟨rfl, hok⟩ | ⟨i, g, cap, prev, rfl, rfl, q1, hok, hcap, hmx⟩
          · repeat' (first | go_values | go_skip | go_guarded | go_step | go_upon)
            refine wp_region_tail 14 (by kernel_rfl) (by kernel_rfl) wx (Below.refl _ _) ?_
            simp only [List.take_succ_cons, List.take_zero, List.drop_succ_cons, List.drop_zero]
            repeat (go_big_quiet_step ((fail)))
            refine wpQuiet_nil ?_
            rintro _ ⟨nq, rfl⟩
            have hnq := nq.2
            clear q0
            have Hrn := Lib.hid (Hrx.out.keep hnq)
            have Hxn := Lib.hid (heap_keep Hx.out hnq)
            have Hon := Lib.hid (Hox.out.keep hnq (Nat.le_refl _))
            have Hbn := Lib.hid (Hbbx.out.trans (hnq.mono Hbbx.out.size))
            have hsn : w1.heap.size < nq.1.heap.size := heap_lt Hxn.out
            clear hnq
            repeat' (first | go_values | go_skip | go_guarded | go_step | go_upon)
            refine Calls.mono (rdr_must wy.heap.size s a1 b1 _ 21 nq.1 Hrn.out) ?_
            rintro _ w2 ⟨rfl, hr2, he2⟩
            dsimp only
            rw [← hok] at hr2
            have Hr2 := Lib.hid hr2
            have Hx2 := Lib.hid (he2.row Hxn.out hgx)
            have Ho2 := Lib.hid (Hon.out.els he2 Hrn.out (by decide))
            have Hb2 := Lib.hid (Hbn.out.trans (he2.below hgw Hrn.out.lt))
            have hs2 := he2.size
            clear hr2 he2 Hrn Hxn Hon Hbn
            have Htx := Lib.hid (rdr_text wy.heap.size s hsl a1 _ Hva.out w2 Hr2.out)
            rw [Hq3.out] at Htx
            repeat' (first | go_values | go_skip | go_guarded | go_step | go_upon)
            refine Calls.mono (Htx.out) ?_
            rintro _ w3 ⟨rfl, hr3, he3⟩
            dsimp only
            dsimp only at hr3
            have Hr3 := Lib.hid hr3
            have Hx3 := Lib.hid (he3.row Hx2.out hgx)
            have Ho3 := Lib.hid (Ho2.out.els he3 Hr2.out (by decide))
            have Hb3 := Lib.hid (Hb2.out.trans (he3.below hgw Hr2.out.lt))
            have hs3 := he3.size
            clear hr3 he3 Hr2 Hx2 Ho2 Hb2 Htx
            have n0 := two_c0 Hx3.out
            have n1c := two_c1 Hx3.out
            have f1 : w3.frozen? ⟨w1.heap.size, 1, none⟩ = false := frozen_of_row _ _ _ _ _ Hx3.out
            have hbs := ba_size bd
            have hob2 : ∀ k', (u9 : Value).ownBlock = some k' → k' ≠ w1.heap.size := fun k' hk' => Nat.ne_of_lt (Hob.out k' hk')
            have Ho4 := Lib.hid (Ho3.out.setOther (o := 1) (u := .string ⟨bd.toArray⟩) hob2)
            have hown := Ho4.out
            have hwB : w.heap.size ≤ (w3.setCell ⟨w1.heap.size, 1, none⟩ (.string ⟨bd.toArray⟩)).heap.size := by have := Hb3.out.size; simpa [World.setCell] using this
            have hll : acc.length ≤ 64 := by rw [Hal.out]; omega
            repeat' (first | (at_builtin; go_loud (refine app_one 24 w3.heap.size (by simp [World.setCell]) (n1, bd) secC_len (by intro u hu; simp [secC] at hu; rcases hu with rfl | rfl <;> rfl) Try.underlying39 info_sec rfl rfl _ _ rfl rfl rfl rfl hown hwB (by omega) (by unfold maxLen; omega) ?_); intro v4 w4 hown4 hb4 hk4 _) | go_values | go_skip | go_guarded | go_step | go_upon)
            have Hrn4 : Hid (RdrAt w4 wy.heap.size s a3 b3) := Lib.hid (by
              refine hk4 _ _ _ _ ?_ (by decide)
              rw [show (w3.setCell ⟨w1.heap.size, 1, none⟩ (.string ⟨bd.toArray⟩)).heap[wy.heap.size]? = w3.heap[wy.heap.size]? from Below.heap_setCell _ _ _ _ (by dsimp only; omega)]
              exact Hr3.out)
            have Hbe4 := Lib.hid ((Hb3.out.setCell (p := ⟨w1.heap.size, 1, none⟩) (by have := Hb1.out.size; exact this) (.string ⟨bd.toArray⟩)).trans hb4)
            have Hown4 := Lib.hid hown4
            go_roundw
            case rel => exact ⟨0 + 1, acc ++ [(n1, bd)], a3, b3, by rw [sizeS_append]; simp [sizeS], by simp, Hown4, Hrn4, Hnx, Hbe4⟩
            case measure => simp [intOf]; omega
          · have hz1 : ((i : Int) + 1 == 0) = false := by simp; omega
            have hw1 : IntKind.u64.wrap (i : Int) = i := wu64 (by omega) (u64_small (by omega))
            repeat' (first | go_values | go_skip | go_guarded | go_step | go_upon)
            refine wp_region_tail 14 (by kernel_rfl) (by kernel_rfl) wx (Below.refl _ _) ?_
            simp only [List.take_succ_cons, List.take_zero, List.drop_succ_cons, List.drop_zero]
            repeat (go_big_quiet_step ((fail)))
            refine wpQuiet_nil ?_
            rintro _ ⟨nq, rfl⟩
            have hnq := nq.2
            clear q0 q1
            have Hrn := Lib.hid (Hrx.out.keep hnq)
            have Hxn := Lib.hid (heap_keep Hx.out hnq)
            have Hon := Lib.hid (Hox.out.keep hnq (Nat.le_refl _))
            have Hbn := Lib.hid (Hbbx.out.trans (hnq.mono Hbbx.out.size))
            have hsn : w1.heap.size < nq.1.heap.size := heap_lt Hxn.out
            clear hnq
            repeat' (first | go_values | go_skip | go_guarded | go_step | go_upon)
            refine Calls.mono (rdr_must wy.heap.size s a1 b1 _ 21 nq.1 Hrn.out) ?_
            rintro _ w2 ⟨rfl, hr2, he2⟩
            dsimp only
            try rw [show decide ((prev : Int) < n1) = decide (prev < n1) from by rw [Bool.eq_iff_iff]; simp] at hr2
            rw [← hok] at hr2
            have Hr2 := Lib.hid hr2
            have Hx2 := Lib.hid (he2.row Hxn.out hgx)
            have Ho2 := Lib.hid (Hon.out.els he2 Hrn.out (by decide))
            have Hb2 := Lib.hid (Hbn.out.trans (he2.below hgw Hrn.out.lt))
            have hs2 := he2.size
            clear hr2 he2 Hrn Hxn Hon Hbn
            have Htx := Lib.hid (rdr_text wy.heap.size s hsl a1 _ Hva.out w2 Hr2.out)
            rw [Hq3.out] at Htx
            repeat' (first | go_values | go_skip | go_guarded | go_step | go_upon)
            refine Calls.mono (Htx.out) ?_
            rintro _ w3 ⟨rfl, hr3, he3⟩
            dsimp only
            dsimp only at hr3
            have Hr3 := Lib.hid hr3
            have Hx3 := Lib.hid (he3.row Hx2.out hgx)
            have Ho3 := Lib.hid (Ho2.out.els he3 Hr2.out (by decide))
            have Hb3 := Lib.hid (Hb2.out.trans (he3.below hgw Hr2.out.lt))
            have hs3 := he3.size
            clear hr3 he3 Hr2 Hx2 Ho2 Hb2 Htx
            have n0 := two_c0 Hx3.out
            have n1c := two_c1 Hx3.out
            have f1 : w3.frozen? ⟨w1.heap.size, 1, none⟩ = false := frozen_of_row _ _ _ _ _ Hx3.out
            have hbs := ba_size bd
            have hob2 : ∀ k', (.slice (some ⟨g, 0, none⟩) (i + 1) cap : Value).ownBlock = some k' → k' ≠ w1.heap.size := fun k' hk' => Nat.ne_of_lt (Hob.out k' hk')
            have Ho4 := Lib.hid (Ho3.out.setOther (o := 1) (u := .string ⟨bd.toArray⟩) hob2)
            have hown := Ho4.out
            have hwB : w.heap.size ≤ (w3.setCell ⟨w1.heap.size, 1, none⟩ (.string ⟨bd.toArray⟩)).heap.size := by have := Hb3.out.size; simpa [World.setCell] using this
            have hll : acc.length ≤ 64 := by rw [Hal.out]; omega
            repeat' (first | (at_builtin; go_loud (refine app_one 24 w3.heap.size (by simp [World.setCell]) (n1, bd) secC_len (by intro u hu; simp [secC] at hu; rcases hu with rfl | rfl <;> rfl) Try.underlying39 info_sec rfl rfl _ _ rfl rfl rfl rfl hown hwB (by omega) (by unfold maxLen; omega) ?_); intro v4 w4 hown4 hb4 hk4 _) | go_values | go_skip | go_guarded | go_step | go_upon)
            have Hrn4 : Hid (RdrAt w4 wy.heap.size s a3 b3) := Lib.hid (by
              refine hk4 _ _ _ _ ?_ (by decide)
              rw [show (w3.setCell ⟨w1.heap.size, 1, none⟩ (.string ⟨bd.toArray⟩)).heap[wy.heap.size]? = w3.heap[wy.heap.size]? from Below.heap_setCell _ _ _ _ (by dsimp only; omega)]
              exact Hr3.out)
            have Hbe4 := Lib.hid ((Hb3.out.setCell (p := ⟨w1.heap.size, 1, none⟩) (by have := Hb1.out.size; exact this) (.string ⟨bd.toArray⟩)).trans hb4)
            have Hown4 := Lib.hid hown4
            go_roundw
            case rel => exact ⟨(i + 1) + 1, acc ++ [(n1, bd)], a3, b3, by rw [sizeS_append]; simp [sizeS], by simp, Hown4, Hrn4, Hnx, Hbe4⟩
            case measure => simp [intOf]; omega
        · have hend : bad = 0 → many ≤ k := fun h => by
            have := not_and.1 hgo
            rcases Nat.lt_or_ge k many with h' | h'
            · exact absurd h (this h')
            · exact h'
          clear hgo
          have hdn := Hi.out.done hend
          have hss := Hi.out.size
          obtain ⟨ok1, hok1⟩ : ∃ ok, (at' == (n : Int)) = ok := ⟨_, rfl⟩
          obtain ⟨ok2, hok2⟩ : ∃ ok, decide ((sizeS acc : Int) ≤ 8388608) = ok := ⟨_, rfl⟩
          rw [show decide (at' = (n : Int)) = ok1 from by rw [← hok1]; rfl, show decide (sizeS acc ≤ 8388608) = ok2 from by rw [← hok2, Bool.eq_iff_iff]; simp; omega] at hdn
          obtain ⟨b5, hb5⟩ : ∃ b5, rdMust ok2 2 (rdMust ok1 21 bad) = b5 := ⟨_, rfl⟩
          rw [hb5] at hdn
          have Hdn := Lib.hid hdn; clear hdn
          have Hb5 := Lib.hid hb5; clear hb5
          have Hend := Lib.hid hend; clear hend
          clear hss
          have c1 := Hr.out.c1
          have c2 := Hr.out.c2
          have hpl := Hi.out.place
          clear Hi
          generalize sizeS acc = sz at hok2
          obtain ⟨wo, hwo⟩ : ∃ wo : World, wo = wr := ⟨_, rfl⟩
          subst hwo
          by_cases hkm : k < many
          · have hb0 : (bad == 0) = false := by simp; intro h; have := Hend.out h; omega
            clear Hend
            repeat' (first | go_values | go_skip | go_guarded | go_step | go_upon)
            refine Calls.mono (rdr_must wy.heap.size s at' bad ok1 21 wo Hr.out) ?_
            rintro _ w3 ⟨rfl, hr3, he3⟩
            dsimp only
            have Hr3 := Lib.hid hr3
            have Ho3 := Lib.hid (Ho.out.els he3 Hr.out (by decide))
            have Hb3 := Lib.hid (Hb.out.trans (he3.below hgw Hr.out.lt))
            clear hr3 he3 Hr Ho Hb hok1
            repeat' (first | go_values | go_skip | go_guarded | go_step | go_upon)
            refine Calls.mono (rdr_must wy.heap.size s at' _ ok2 2 w3 Hr3.out) ?_
            rintro _ w4 ⟨rfl, hr4, he4⟩
            dsimp only
            rw [Hb5.out] at hr4
            have Hr4 := Lib.hid hr4
            have Ho4 := Lib.hid (Ho3.out.els he4 Hr3.out (by decide))
            have Hb4 := Lib.hid (Hb3.out.trans (he4.below hgw Hr3.out.lt))
            clear hr4 he4 Hr3 Ho3 Hb3 hok2 c1 c2
            have d2 := Hr4.out.c2
            have q2 : ∀ nq : WB w4, nq.1.cell? ⟨wy.heap.size, 2, none⟩ = some (.int .i64 b5) := fun nq => (Hr4.out.keep nq.2).c2
            by_cases h5 : b5 = 0
            · subst h5
              have e := Hdn.out
              rw [if_neg (by simp)] at e
              subst e
              repeat' (first | go_values | go_skip | go_guarded | go_step | go_upon)
              go_ret2
              exact ⟨_, rfl, Ho4.out.row, Hb4.out⟩
            · have h5b : (b5 != 0) = true := by simpa using h5
              have e := Hdn.out
              rw [if_pos h5] at e
              subst e
              repeat' (first | go_values | go_skip | go_guarded | go_step | go_upon)
              refine wp_region_wb (by kernel_rfl) (by kernel_rfl) w4 (Below.refl _ _) ?_
              repeat (go_big_quiet_step ((fail)))
              refine wpQuiet_nil ?_
              rintro _ ⟨nq, rfl⟩
              have hnq := nq.2
              clear q2
              repeat' (first | go_values | go_skip | go_guarded | go_step | go_upon)
              go_ret2
              exact ⟨_, rfl, RdC.nil, Hb4.out.trans (hnq.mono Hb4.out.size)⟩
          · repeat' (first | go_values | go_skip | go_guarded | go_step | go_upon)
            refine Calls.mono (rdr_must wy.heap.size s at' bad ok1 21 wo Hr.out) ?_
            rintro _ w3 ⟨rfl, hr3, he3⟩
            dsimp only
            have Hr3 := Lib.hid hr3
            have Ho3 := Lib.hid (Ho.out.els he3 Hr.out (by decide))
            have Hb3 := Lib.hid (Hb.out.trans (he3.below hgw Hr.out.lt))
            clear hr3 he3 Hr Ho Hb hok1
            repeat' (first | go_values | go_skip | go_guarded | go_step | go_upon)
            refine Calls.mono (rdr_must wy.heap.size s at' _ ok2 2 w3 Hr3.out) ?_
            rintro _ w4 ⟨rfl, hr4, he4⟩
            dsimp only
            rw [Hb5.out] at hr4
            have Hr4 := Lib.hid hr4
            have Ho4 := Lib.hid (Ho3.out.els he4 Hr3.out (by decide))
            have Hb4 := Lib.hid (Hb3.out.trans (he4.below hgw Hr3.out.lt))
            clear hr4 he4 Hr3 Ho3 Hb3 hok2 c1 c2
            have d2 := Hr4.out.c2
            have q2 : ∀ nq : WB w4, nq.1.cell? ⟨wy.heap.size, 2, none⟩ = some (.int .i64 b5) := fun nq => (Hr4.out.keep nq.2).c2
            by_cases h5 : b5 = 0
            · subst h5
              have e := Hdn.out
              rw [if_neg (by simp)] at e
              subst e
              repeat' (first | go_values | go_skip | go_guarded | go_step | go_upon)
              go_ret2
              exact ⟨_, rfl, Ho4.out.row, Hb4.out⟩
            · have h5b : (b5 != 0) = true := by simpa using h5
              have e := Hdn.out
              rw [if_pos h5] at e
              subst e
              repeat' (first | go_values | go_skip | go_guarded | go_step | go_upon)
              refine wp_region_wb (by kernel_rfl) (by kernel_rfl) w4 (Below.refl _ _) ?_
              repeat (go_big_quiet_step ((fail)))
              refine wpQuiet_nil ?_
              rintro _ ⟨nq, rfl⟩
              have hnq := nq.2
              clear q2
              repeat' (first | go_values | go_skip | go_guarded | go_step | go_upon)
              go_ret2
              exact ⟨_, rfl, RdC.nil, Hb4.out.trans (hnq.mono Hb4.out.size)⟩
    · have hqb : (t.drop n == put4 (sumOn 0 s)) = false := by simpa using hq
      have e : G = ([], 41) := by rw [HG2.out, if_pos (by simpa using hq)]
      clear hq
      subst e
      go_enter Try.func37, Try.ntmps37
      repeat' (first | go_values | go_skip | go_guarded | go_step | go_upon)
      refine Calls.mono (has_beg t _) ?_
      rintro _ _ ⟨rfl, rfl⟩
      dsimp only
      repeat' (first | go_values | go_skip | go_guarded | go_step | go_upon)
      refine wp_region_wb (by kernel_rfl) (by kernel_rfl) w (Below.refl _ _) ?_
      repeat (go_big_quiet_step ((first | (go_at_call 67; with_reducible exact calls_wb (Hsum.out _)) | (go_at_call 66; with_reducible exact calls_wb (Hput.out _)))))
      refine wpQuiet_nil ?_
      rintro _ ⟨nq, rfl⟩
      have hnq := nq.2
      repeat' (first | go_values | go_skip | go_guarded | go_step | go_upon)
      go_ret2
      exact ⟨_, rfl, RdC.nil, hnq⟩
  · have hpt : Lib.hasPrefix t [70, 83, 65, 87, 1] = false := by rw [hpre]; simpa using h5
    have e : G = ([], 40) := by rw [HG2.out, if_pos (by simpa using h5)]
    clear hpre
    subst e
    go_enter Try.func37, Try.ntmps37
    repeat' (first | go_values | go_skip | go_guarded | go_step | go_upon)
    refine Calls.mono (has_beg t _) ?_
    rintro _ _ ⟨rfl, rfl⟩
    dsimp only
    repeat' (first | go_values | go_skip | go_guarded | go_step | go_upon)
    go_ret2
    exact ⟨_, rfl, RdC.nil, Below.refl _ _⟩
end Go.Proofs.Ytbomloodllddaaa
/- Walk: a pack is read, by the reference (fretsawref04.Get). Condition: the text is of at most 10^15 bytes. -/
namespace Go.Proofs.Ytbomloodllddaaa
open Go.RowKit
theorem OwnR.lit0 {α : Type} {f : α → List Value} {sz B : Nat} {e : TypeId} (w : World) (hB : B ≤ w.heap.size) : OwnR f sz B e (w.alloc (.cells #[] e)) (.slice (some ⟨w.heap.size, 0, none⟩) 0 0) ([] : List α) := by
  have h := World.ownsRow_lit (base := B) (e := e) (size := sz) w #[] 0 hB (by decide) (by simp)
  exact OwnC.of_own (by simpa using h)
set_option maxRecDepth 100000 in
set_option maxHeartbeats 2000000 in
theorem rq_Get (t : List UInt8) (hs : t.length ≤ 1000000000000000) (w : World) :
    Calls Try.prog 39 #[.string ⟨t.toArray⟩] w fun e w' => ∃ v, e = .returned (.tuple #[v, .int .i64 (getP t).2]) ∧ RowOf secC 2 w' v (getP t).1 ∧ Below w.heap.size w w' := by
  obtain ⟨G, hG⟩ : ∃ G, getP t = G := ⟨_, rfl⟩
  rw [hG]
  have HG := Lib.hid hG; clear hG
  have hsz := arr_size t
  by_cases h9 : t.length < 9
  · have e : G = ([], 20) := by rw [← HG.out]; unfold getP; rw [if_pos h9]
    subst e
    go_enter Try.func39, Try.ntmps39
    repeat' (first | go_values | go_skip | go_guarded | go_step | go_upon)
    go_ret2
    exact ⟨_, rfl, RdC.nil, Below.refl _ _⟩
  obtain ⟨n, hn⟩ : ∃ n, t.length - 4 = n := ⟨_, rfl⟩
  have hnl : t.length = n + 4 := by omega
  have hnI : (t.length : Int) - 4 = n := by omega
  have hn5 : 5 ≤ n := by omega
  have hex1 : (⟨t.toArray⟩ : ByteArray).extract n t.length = ⟨(t.drop n).toArray⟩ := by rw [arr_extract, List.take_of_length_le (by simp)]
  have hex2 : (⟨t.toArray⟩ : ByteArray).extract 0 n = ⟨(t.take n).toArray⟩ := by rw [arr_extract, List.drop_zero, Nat.sub_zero]
  have hex3 : (⟨t.toArray⟩ : ByteArray).extract 0 5 = ⟨(t.take 5).toArray⟩ := by rw [arr_extract, List.drop_zero, Nat.sub_zero]
  have HG2 : Hid (G = if t.take 5 ≠ begB then ([], 40) else if t.drop n ≠ put4 (sumOn 0 (t.take n)) then ([], 41) else if (vget (t.take n) 5).2.2 ≠ 0 then ([], (vget (t.take n) 5).2.2) else if 64 < (vget (t.take n) 5).1 then ([], 2) else finP n (secsF (t.take n) (vget (t.take n) 5).1 none (vget (t.take n) 5).2.1)) := Lib.hid (by
    rw [← HG.out]; unfold getP; rw [if_neg h9, hn]; rfl)
  clear HG
  have Hnl := Lib.hid hnl
  have hln : n ≤ t.length := by omega
  have h5l : (5 : Int) ≤ t.length := by omega
  have Htk : Hid ((t.take n).length = n) := Lib.hid (by rw [List.length_take]; omega)
  clear hn hnl
  by_cases h5 : t.take 5 = begB
  · rw [if_neg (by simpa using h5)] at HG2
    have h5' : (t.take 5 == [70, 83, 65, 87, 1]) = true := by rw [h5]; rfl
    clear h5
    have Hsum := Lib.hid (fun w => ref_Of ⟨(t.take n).toArray⟩ (by rw [arr_size]; rw [Htk.out]; omega) w)
    have Hput := Lib.hid (fun w => ref_PutFour (sumOn 0 (t.take n)) (le_u32 (sumOn_lt _ _)) w)
    generalize t.take n = s at hex2 HG2 Htk Hsum Hput
    generalize t.take 5 = t5 at h5' hex3
    by_cases hq : t.drop n = put4 (sumOn 0 s)
    · have hqb : (put4 (sumOn 0 s) == t.drop n) = true := by simpa using hq.symm
      rw [if_neg (by simpa using hq)] at HG2
      clear hq
      have hsl : s.length ≤ 1000000000000000 := by rw [Htk.out]; omega
      obtain ⟨p, hp⟩ : ∃ p, vget s 5 = p := ⟨_, rfl⟩
      obtain ⟨many, a0, b0⟩ := p
      have Hg0 := Lib.hid (fun w => ref_Get ⟨s.toArray⟩ (by rw [arr_size]; exact hsl) 5 (i64_small (by omega)) w)
      rw [show (⟨s.toArray⟩ : ByteArray).data.toList = s from rfl, hp] at Hg0
      rw [hp] at HG2
      dsimp only at HG2 Hg0
      have Hst := Lib.hid (fun h => GInv.start (G := G) (n := n) hsl hp h)
      clear hp
      go_enter Try.func39, Try.ntmps39
      repeat' (first | go_values | go_skip | go_guarded | go_step | go_upon)
      refine wp_region_wb (by kernel_rfl) (by kernel_rfl) w (Below.refl _ _) ?_
      repeat (go_big_quiet_step ((first | (go_at_call 52; with_reducible exact calls_wb_same (Hsum.out _)) | (go_at_call 51; with_reducible exact calls_wb (Hput.out _)))))
      refine wpQuiet_nil ?_
      rintro _ ⟨nq, rfl⟩
      have hnq := nq.2
      clear hqb Hsum Hput hex1
      obtain ⟨wy, hwy⟩ : ∃ wy : World, wy = nq.1 := ⟨_, rfl⟩
      have Hby := Lib.hid hnq
      rw [← hwy] at Hby ⊢
      clear hwy hnq
      repeat' (first | go_values | go_skip | go_guarded | go_step | go_upon)
      refine Calls.mono (Hg0.out _) ?_
      rintro _ w1 ⟨rfl, hb1⟩
      dsimp only
      have Hb1 := Lib.hid (Hby.out.trans (hb1.mono Hby.out.size))
      clear Hg0 hb1 Hby
      by_cases hb0 : b0 = 0
      · subst hb0
        rw [if_neg (by simp)] at HG2
        by_cases hm : 64 < many
        · have e : G = ([], 2) := by rw [HG2.out, if_pos hm]
          subst e
          repeat' (first | go_values | go_skip | go_guarded | go_step | go_upon)
          go_ret2
          exact ⟨_, rfl, RdC.nil, Hb1.out⟩
        · have Hst2 := Lib.hid (Hst.out (by rw [if_neg (by simp)]; exact HG2.out))
          rw [show rdMust (decide (many ≤ 64)) 2 0 = 0 from by unfold rdMust; rw [if_neg (by simp; omega)]] at Hst2
          clear Hst HG2
          have hmw : IntKind.i64.wrap (many : Int) = many := wi64 (i64_small (by omega))
          have Hl0 : Hid (OwnR secC 2 w.heap.size 70 (w1.alloc (.cells #[] 70)) (.slice (some ⟨w1.heap.size, 0, none⟩) 0 0) ([] : List Sec)) := Lib.hid (OwnR.lit0 w1 Hb1.out.size)
          repeat' (first | go_values | go_skip | go_guarded | go_step | go_upon)
          go_loopw [6, 8, 9, 10] (fun s6 s8 s9 s10 w' => ∃ (k : Nat) (acc : List Sec) (at' : Int), s6 = .int .i64 at' ∧ s9 = .int .i64 (sizeS acc : Nat) ∧ s10 = .int .i64 k ∧ Hid (OwnR secC 2 w.heap.size 70 w' s8 acc) ∧ Hid (GInv G n s many k acc at' 0) ∧ Hid (Below w.heap.size w w')) (fun _ _ _ s10 _ => many - (intOf s10).toNat)
          case atStart => exact ⟨0, [], a0, rfl, rfl, rfl, Hl0, Hst2, Lib.hid (Hb1.out.alloc Hb1.out.size _)⟩
          case round =>
            clear Hl0 Hst2 Hb1
            obtain ⟨k, acc, at', rfl, rfl, rfl, Ho, Hi, Hb⟩ := hrel
            by_cases hkm : k < many
            · obtain ⟨q, hq⟩ : ∃ q, rdNum s at' 0 = q := ⟨_, rfl⟩
              obtain ⟨n1, a1, b1⟩ := q
              have hgv : vget s at' = (n1, a1, b1) := by rw [← hq]; unfold rdNum; rw [if_neg (by simp)]
              have Hnum := Lib.hid (fun w => ref_Get ⟨s.toArray⟩ (by rw [arr_size]; exact hsl) at' Hi.out.place w)
              rw [show (⟨s.toArray⟩ : ByteArray).data.toList = s from rfl, hgv] at Hnum
              dsimp only at Hnum
              have hva : I64 a1 := by have := vget_i64 hsl at'; rw [hgv] at this; exact this
              obtain ⟨q, hq3⟩ : ∃ q, rdText s a1 (rdMust (okAfter acc n1) 21 b1) = q := ⟨_, rfl⟩
              obtain ⟨bd, a3, b3⟩ := q
              have Hnx := Lib.hid (Hi.out.step hsl hkm hq rfl hq3)
              have hss := Hi.out.size
              have hs2 := Hnx.out.size
              rw [sizeS_append] at hs2
              simp only [sizeS] at hs2
              have Hal := Lib.hid Hi.out.len
              have hll : acc.length ≤ 64 := by rw [Hal.out]; omega
              have hk64 : k ≤ 64 := by omega
              have Hss : Hid (sizeS acc ≤ 64 * 8388608) := Lib.hid (Nat.le_trans hss (Nat.mul_le_mul_right _ hk64))
              have Hbd : Hid (b3 = 0 → bd.length ≤ 8388608) := Lib.hid fun h => by
                have h1 := hq3
                unfold rdText at h1
                split at h1
                · simp only [Prod.mk.injEq] at h1; obtain ⟨rfl, _⟩ := h1; simp
                · have := gett_len s a1; rw [h1] at this; exact this
              have Hva := Lib.hid hva
              have Hq3 := Lib.hid hq3
              clear hq hgv hva hq3 hs2 hss
              obtain ⟨wo, hwo⟩ : ∃ wo : World, wo = wr := ⟨_, rfl⟩
              subst hwo
              repeat' (first | go_values | go_skip | go_guarded | go_step | go_upon)
              refine Calls.mono (Hnum.out _) ?_
              rintro _ w2 ⟨rfl, hb2⟩
              dsimp only
              have Ho2 := Lib.hid (Ho.out.keep hb2 (Nat.le_refl _))
              have Hb2 := Lib.hid (Hb.out.trans (hb2.mono Hb.out.size))
              clear Hnum hb2 Ho Hb
              by_cases hb10 : b1 = 0
              · subst hb10
                have hcase : (k = 0 ∧ okAfter acc n1 = true) ∨ ∃ i g cap prev, k = i + 1 ∧ u8 = .slice (some ⟨g, 0, none⟩) (i + 1) cap ∧ w2.cell? ⟨g, i * 2, none⟩ = some (.int .u64 (prev : Nat)) ∧ okAfter acc n1 = decide (prev < n1) ∧ (i + 1 ≤ cap ∧ cap ≤ maxLen) := by
                  rcases Nat.eq_zero_or_pos k with h0 | h0
                  · refine .inl ⟨h0, ?_⟩
                    have : acc = [] := List.eq_nil_of_length_eq_zero (by rw [Hal.out]; exact h0)
                    subst this; rfl
                  · obtain ⟨i, rfl⟩ : ∃ i, k = i + 1 := ⟨k - 1, by omega⟩
                    obtain ⟨g, cap, hv⟩ := Ho2.out.somewhere (by rw [Hal.out]; omega)
                    obtain ⟨_, _, hv2, hv3, hv4⟩ := Ho2.out.form
                    rw [hv] at hv2
                    simp only [Value.slice.injEq] at hv2
                    obtain ⟨_, _, rfl⟩ := hv2
                    rw [Hal.out] at hv hv3
                    have hx : acc[i]? = some (acc.getD i (0, [])) := by rw [List.getD_eq_getElem?_getD, List.getElem?_eq_getElem (by rw [Hal.out]; omega)]; rfl
                    refine .inr ⟨i, g, cap, (acc.getD i (0, [])).1, rfl, hv, ?_, ?_, hv3, hv4⟩
                    · have ho := Ho2.out
                      rw [hv] at ho
                      have := ho.cellAt secC_len i _ 0 hx (by omega)
                      simpa [secC] using this
                    · unfold okAfter lastK
                      rw [List.getLast?_eq_getElem?, Hal.out, Nat.add_sub_cancel, hx]
                      rfl
                have Htx := Lib.hid (fun w => ref_GetText ⟨s.toArray⟩ (by rw [arr_size]; exact hsl) a1 Hva.out 8388608 (i64_small (by omega)) w)
                rw [show (⟨s.toArray⟩ : ByteArray).data.toList = s from rfl] at Htx
                rcases hcase with ⟨rfl, hok⟩ | ⟨i, g, cap, prev, rfl, rfl, c1, hok, hcap, hmx⟩
                · have h1 := Hq3.out
                  rw [hok, show rdMust true 21 0 = 0 from rfl] at h1
                  unfold rdText at h1
                  rw [if_neg (by simp)] at h1
                  rw [h1] at Htx
                  dsimp only at Htx
                  clear h1
                  repeat' (first | go_values | go_skip | go_guarded | go_step | go_upon)
                  refine Calls.mono (Htx.out _) ?_
                  rintro _ w3 ⟨rfl, hb3⟩
                  dsimp only
                  have Ho3 := Lib.hid (Ho2.out.keep hb3 (Nat.le_refl _))
                  have Hb3 := Lib.hid (Hb2.out.trans (hb3.mono Hb2.out.size))
                  clear Htx hb3 Ho2 Hb2
                  by_cases hb30 : b3 = 0
                  · subst hb30
                    have hbl := Hbd.out rfl
                    have hown := Ho3.out
                    have hwB := Hb3.out.size
                    have hss := Hss.out
                    have hbs := ba_size bd
                    repeat' (first | (at_builtin; go_loud (refine app_one 24 w3.heap.size rfl (n1, bd) secC_len (by intro u hu; simp [secC] at hu; rcases hu with rfl | rfl <;> rfl) Try.underlying39 info_sec rfl rfl _ _ rfl rfl rfl rfl hown hwB (by omega) (by unfold maxLen; omega) ?_); intro v4 w4 hown4 hb4 hk4 _) | go_values | go_skip | go_guarded | go_step | go_upon)
                    have Hbe4 := Lib.hid (Hb3.out.trans hb4)
                    have Hown4 := Lib.hid hown4
                    go_roundw
                    case rel => exact ⟨0 + 1, acc ++ [(n1, bd)], a3, rfl, by rw [sizeS_append]; simp [sizeS], by simp, Hown4, Hnx, Hbe4⟩
                    case measure => simp [intOf]; omega
                  · have e : G = ([], b3) := Hnx.out.wrong hb30
                    subst e
                    have hbb : (b3 != 0) = true := by simpa using hb30
                    repeat' (first | go_values | go_skip | go_guarded | go_step | go_upon)
                    go_ret2
                    exact ⟨_, rfl, RdC.nil, Hb3.out⟩
                · by_cases hpv : prev < n1
                  · have hpv1 : ¬ (n1 : Int) ≤ prev := by omega
                    have h1 := Hq3.out
                    rw [hok, show decide (prev < n1) = true from by simpa using hpv, show rdMust true 21 0 = 0 from rfl] at h1
                    unfold rdText at h1
                    rw [if_neg (by simp)] at h1
                    rw [h1] at Htx
                    dsimp only at Htx
                    clear h1
                    repeat' (first | go_values | go_skip | go_guarded | go_step | go_upon)
                    refine Calls.mono (Htx.out _) ?_
                    rintro _ w3 ⟨rfl, hb3⟩
                    dsimp only
                    have Ho3 := Lib.hid (Ho2.out.keep hb3 (Nat.le_refl _))
                    have Hb3 := Lib.hid (Hb2.out.trans (hb3.mono Hb2.out.size))
                    clear Htx hb3 Ho2 Hb2
                    by_cases hb30 : b3 = 0
                    · subst hb30
                      have hbl := Hbd.out rfl
                      have hown := Ho3.out
                      have hwB := Hb3.out.size
                      have hss := Hss.out
                      have hbs := ba_size bd
                      repeat' (first | (at_builtin; go_loud (refine app_one 24 w3.heap.size rfl (n1, bd) secC_len (by intro u hu; simp [secC] at hu; rcases hu with rfl | rfl <;> rfl) Try.underlying39 info_sec rfl rfl _ _ rfl rfl rfl rfl hown hwB (by omega) (by unfold maxLen; omega) ?_); intro v4 w4 hown4 hb4 hk4 _) | go_values | go_skip | go_guarded | go_step | go_upon)
                      have Hbe4 := Lib.hid (Hb3.out.trans hb4)
                      have Hown4 := Lib.hid hown4
                      go_roundw
                      case rel => exact ⟨(i + 1) + 1, acc ++ [(n1, bd)], a3, rfl, by rw [sizeS_append]; simp [sizeS], by simp, Hown4, Hnx, Hbe4⟩
                      case measure => simp [intOf]; omega
                    · have e : G = ([], b3) := Hnx.out.wrong hb30
                      subst e
                      have hbb : (b3 != 0) = true := by simpa using hb30
                      repeat' (first | go_values | go_skip | go_guarded | go_step | go_upon)
                      go_ret2
                      exact ⟨_, rfl, RdC.nil, Hb3.out⟩
                  · have e : G = ([], 21) := by
                      have h1 := Hq3.out
                      rw [hok, show decide (prev < n1) = false from by simpa using hpv] at h1
                      have hb3 : b3 = 21 := by unfold rdText rdMust at h1; simp at h1; exact h1.2.2.symm
                      subst hb3
                      exact Hnx.out.wrong (by decide)
                    subst e
                    have hpv1 : (n1 : Int) ≤ prev := by omega
                    repeat' (first | go_values | go_skip | go_guarded | go_step | go_upon)
                    go_ret2
                    exact ⟨_, rfl, RdC.nil, Hb2.out⟩
              · have e : G = ([], b1) := by
                  have h1 := Hq3.out
                  rw [show rdMust (okAfter acc n1) 21 b1 = b1 from by unfold rdMust; rw [if_neg (by simp [hb10])]] at h1
                  have hb3 : b3 = b1 := by unfold rdText at h1; rw [if_pos hb10] at h1; simp at h1; exact h1.2.2.symm
                  subst hb3
                  exact Hnx.out.wrong hb10
                subst e
                have hbb : (b1 != 0) = true := by simpa using hb10
                repeat' (first | go_values | go_skip | go_guarded | go_step | go_upon)
                go_ret2
                exact ⟨_, rfl, RdC.nil, Hb2.out⟩
            · have hdn := Hi.out.done (fun _ => by omega)
              have hkl := (Hi.out.good rfl).2.1
              clear Hi
              by_cases h1 : at' = n
              · by_cases h2 : sizeS acc ≤ 8388608
                · have e : G = (acc, 0) := by rw [hdn]; unfold rdMust; simp [h1, h2]
                  subst e
                  have h1b : (at' != (n : Int)) = false := by simpa using h1
                  clear hdn h1
                  repeat' (first | go_values | go_skip | go_guarded | go_step | go_upon)
                  go_ret2
                  exact ⟨_, rfl, Ho.out.row, Hb.out⟩
                · have e : G = ([], 2) := by rw [hdn]; unfold rdMust; simp [h1, h2]
                  subst e
                  have h1b : (at' != (n : Int)) = false := by simpa using h1
                  clear hdn h1
                  repeat' (first | go_values | go_skip | go_guarded | go_step | go_upon)
                  go_ret2
                  exact ⟨_, rfl, RdC.nil, Hb.out⟩
              · have e : G = ([], 21) := by rw [hdn]; unfold rdMust; simp [h1]
                subst e
                have h1b : (at' != (n : Int)) = true := by simpa using h1
                clear hdn h1
                repeat' (first | go_values | go_skip | go_guarded | go_step | go_upon)
                go_ret2
                exact ⟨_, rfl, RdC.nil, Hb.out⟩
      · have e : G = ([], b0) := by rw [HG2.out, if_pos hb0]
        subst e
        have hbb : (b0 != 0) = true := by simpa using hb0
        repeat' (first | go_values | go_skip | go_guarded | go_step | go_upon)
        go_ret2
        exact ⟨_, rfl, RdC.nil, Hb1.out⟩
    · have hqb : (put4 (sumOn 0 s) == t.drop n) = false := by simpa using fun h => hq h.symm
      have e : G = ([], 41) := by rw [HG2.out, if_pos (by simpa using hq)]
      clear hq
      subst e
      go_enter Try.func39, Try.ntmps39
      repeat' (first | go_values | go_skip | go_guarded | go_step | go_upon)
      refine wp_region_wb (by kernel_rfl) (by kernel_rfl) w (Below.refl _ _) ?_
      repeat (go_big_quiet_step ((first | (go_at_call 52; with_reducible exact calls_wb_same (Hsum.out _)) | (go_at_call 51; with_reducible exact calls_wb (Hput.out _)))))
      refine wpQuiet_nil ?_
      rintro _ ⟨nq, rfl⟩
      have hnq := nq.2
      repeat' (first | go_values | go_skip | go_guarded | go_step | go_upon)
      go_ret2
      exact ⟨_, rfl, RdC.nil, hnq⟩
  · have h5' : (t.take 5 == [70, 83, 65, 87, 1]) = false := by simpa [begB] using h5
    have e : G = ([], 40) := by rw [HG2.out, if_pos (by simpa using h5)]
    clear h5
    generalize t.take 5 = t5 at h5' hex3
    subst e
    go_enter Try.func39, Try.ntmps39
    repeat' (first | go_values | go_skip | go_guarded | go_step | go_upon)
    go_ret2
    exact ⟨_, rfl, RdC.nil, Below.refl _ _⟩
end Go.Proofs.Ytbomloodllddaaa
/- Walks: the statements PackGets and PackInner. No conditions beyond the statements' own. -/
namespace Go.Proofs.Ytbomloodllddaaa
open Go.RowKit
theorem ba_list (s : ByteArray) : ∃ l : List UInt8, s = ⟨l.toArray⟩ := ⟨s.data.toList, by apply ByteArray.ext; apply Array.ext'; simp⟩
/-- bytes with a beginning and a sum that fit -/
def sealB (t : List UInt8) : List UInt8 := (begB ++ t) ++ put4 (sumOn 0 (begB ++ t))
end Go.Proofs.Ytbomloodllddaaa
/- Walk: the statement PackPuts. No conditions beyond the statement's own. -/
namespace Go.Proofs.Ytbomloodllddaaa
open Go.RowKit
theorem secs_of {n : Nat} {xs : List Value} (hn : xs.length = n * 2) (h : ∀ i, i < n → FlatOk [.int .u64, .str] ((xs.drop (i * 2)).take 2)) : ∃ l : List Sec, l.length = n ∧ xs = l.flatMap secC ∧ SecsOk l := by
  refine chunks n xs hn fun i hi => ?_
  obtain ⟨h1, h2⟩ := h i hi
  generalize (xs.drop (i * 2)).take 2 = c at h1 h2
  match c, h1 with
  | [c0, c1], _ =>
    obtain ⟨z, rfl, hz⟩ := h2 0 _ _ rfl rfl
    obtain ⟨s, rfl, hs⟩ := h2 1 _ _ rfl rfl
    obtain ⟨k, rfl, hk⟩ := nat_u64 hz
    exact ⟨(k, s.data.toList), rfl, hk, by simpa using hs⟩
end Go.Proofs.Ytbomloodllddaaa
