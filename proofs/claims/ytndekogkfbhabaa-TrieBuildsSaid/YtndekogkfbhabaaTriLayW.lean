/- Walk: a node is laid into the arrays (lay). Conditions: the maker and the tree lie so; lengths. -/
import Derived.Test.YtndekogkfbhabaaTriNode
import Derived.RangeFuncBox
import Derived.Maps.AppendAt
namespace Go.Proofs.Ytndekogkfbhabaa
open Go.RowKit Go.Shelf
/-- what lay does, for words of at most f letters -/
def LayC (ws0 : List Wd) (A Mp : List UInt8 → Nat) (B g f : Nat) : Prop :=
  ∀ (p : List UInt8) (s : Nat) (M : TM) (v : MV) (w : World), MkAt B g w M v → WfM M → s < M.c.length → M.c.length + costW (subs ws0 p) ≤ 900000000 → TrAt w ws0 A Mp → (p = [] ∨ subs ws0 p ≠ []) → (∀ x ∈ subs ws0 p, x.1.length ≤ f) →
    Calls Try.prog 16 #[ptrV g, ptrV (A p), .int .i64 s] w fun e w' => (∃ u, e = .returned u) ∧ ∃ v', MkAt B g w' (layF (f + 1) (subs ws0 p) s M) v' ∧ MSt B g v v' w w'
/-- while a node is laid -/
structure LF (B g mb : Nat) (v : MV) (w W : World) (M' : TM) (v' : MV) : Prop where
  ma : MkAt B g W M' v'
  st : MSt B g v v' w W
  box : W.heap[mb]? = some (.cells #[ptrV g] 43 (0, 0))
section
variable {B g mb : Nat} {v v' v'' : MV} {w W W' : World} {M' M'' : TM}
theorem LF.step (h : LF B g mb v w W M' v') (hm : MkAt B g W' M'' v'') (hs : MSt B g v' v'' W W') : LF B g mb v w W' M'' v'' :=
  ⟨hm, h.st.trans hs, hs.obj h.ma h.box fun cs t fz e => by
    injection e with e1 e2 e3
    subst e2
    exact ⟨by decide, by decide⟩⟩
theorem LF.below (h : LF B g mb v w W M' v') (hb : Below W.heap.size W W') : LF B g mb v w W' M' v' := h.step (h.ma.keep hb) (MSt.of_below hb h.ma.size)
end
/-- what stands beside it: the row of bytes, and the block for deferred calls -/
structure LG (B g mb lb D n0 : Nat) (x0 : Value) (L : List Int) (v : MV) (w W : World) (M' : TM) (v' : MV) : Prop where
  lf : LF B g mb v w W M' v'
  bx : Boxed W lb 55 x0
  ow : OwnI n0 5 .u8 W x0 L
  df : W.heap[D]? = some (.deferred (some []))
/-- the variable that holds where the places begin -/
structure AtB (g at_ : Nat) (a : Int) (v' : MV) (W : World) : Prop where
  box : W.heap[at_]? = some (.cells #[.int .i64 a] 3 (0, 0))
  nt : ¬ Tch g v' at_
section
variable {B g mb lb D n0 at_ : Nat} {x0 : Value} {L : List Int} {v v' v'' : MV} {w W W' : World} {M' M'' : TM} {a : Int}
theorem LG.step (h : LG B g mb lb D n0 x0 L v w W M' v') (hm : MkAt B g W' M'' v'') (hs : MSt B g v' v'' W W') : LG B g mb lb D n0 x0 L v w W' M'' v'' :=
  ⟨h.lf.step hm hs, hs.obj h.lf.ma h.bx fun cs t fz e => by
    injection e with e1 e2 e3
    subst e2
    exact ⟨by decide, by decide⟩, OwnC.block h.ow fun q hq => by
    obtain ⟨cs, fz, hc⟩ := own_typedV h.ow hq
    rw [hs.obj h.lf.ma hc fun cs t fz e => by
      injection e with e1 e2 e3
      subst e2
      exact ⟨by decide, by decide⟩, hc], hs.obj h.lf.ma h.df fun cs t fz e => by cases e⟩
theorem LG.below (h : LG B g mb lb D n0 x0 L v w W M' v') (hb : Below W.heap.size W W') : LG B g mb lb D n0 x0 L v w W' M' v' := h.step (h.lf.ma.keep hb) (MSt.of_below hb h.lf.ma.size)
theorem AtB.step (h : AtB g at_ a v' W) (hs : MSt B g v' v'' W W') : AtB g at_ a v'' W' :=
  ⟨by rw [hs.keep _ (Array.getElem?_eq_some_iff.1 h.box).1 h.nt]; exact h.box, fun q => by
    rcases hs.tch _ q with q | q
    · exact h.nt q
    · have := (Array.getElem?_eq_some_iff.1 h.box).1
      omega⟩
theorem AtB.below (h : AtB g at_ a v' W) (hb : Below W.heap.size W W') : AtB g at_ a v' W' :=
  ⟨by rw [hb.block _ (Array.getElem?_eq_some_iff.1 h.box).1]; exact h.box, h.nt⟩
end
theorem MkAt.ntch {B g : Nat} {w : World} {M : TM} {v : MV} (h : MkAt B g w M v) {k : Nat} (hk : w.heap.size ≤ k) : ¬ Tch g v k := fun q => by
  obtain ⟨_, cs, t, fz, hc, _⟩ := h.tch q
  have := (Array.getElem?_eq_some_iff.1 hc).1
  omega
theorem bI'_last (k : UInt8) (ks : List UInt8) {n : Nat} (h : (k :: ks).length = n + 1) : (bI' (k :: ks)).getD n 0 = (lastF k ks : Nat) := by
  rw [bI'_at _ (by omega)]
  unfold lastF
  rw [List.getLast_eq_getElem, List.getD_eq_getElem?_getD, List.getElem?_eq_getElem (by omega)]
  simp only [Option.getD_some]
  congr 3
  omega
theorem setAll_snoc (c : List Int) (a : Int) (s : Nat) (l : List UInt8) (b : UInt8) : setAll c a s (l ++ [b]) = (setAll c a s l).set (a + b.toNat + 1).toNat s := by
  unfold setAll
  rw [List.foldl_append]; rfl
section
variable {B g mb lb D n0 at_ N0 : Nat} {x0 : Value} {L : List Int} {v v' : MV} {w W W' : World} {M' : TM} {a : Int}
theorem cells_stay {row : Option Nat} (hg : W.grownBy W' row) (hr : ∀ r, row = some r → N0 ≤ r ∧ ∃ o : Obj, W.heap[r]? = some o ∧ o.isCells = false) {k : Nat} {cs : Array Value} {t : TypeId} {fz : Nat × Nat} (hk : W.heap[k]? = some (.cells cs t fz)) : W'.heap[k]? = some (.cells cs t fz) := by
  rw [hg.block k (Array.getElem?_eq_some_iff.1 hk).1 fun e => ?_]
  · exact hk
  · obtain ⟨_, o, ho, hoc⟩ := hr k e.symm
    rw [hk] at ho
    obtain rfl := Option.some.inj ho
    simp [Obj.isCells] at hoc
theorem LG.grow0 (h : LG B g mb lb D n0 x0 L v w W M' v') {row : Option Nat} (hg : W.grownBy W' row) (hr : ∀ r, row = some r → N0 ≤ r ∧ ∃ o : Obj, W.heap[r]? = some o ∧ o.isCells = false) (hD : D < N0) (hw : w.heap.size ≤ N0) (hB : B ≤ w.heap.size) : LG B g mb lb D n0 x0 L v w W' M' v' :=
  ⟨⟨h.lf.ma.grow0 hg fun r e => (hr r e).2, h.lf.st.grow0 hg hB fun r e => Nat.le_trans hw (hr r e).1, cells_stay hg hr h.lf.box⟩, cells_stay hg hr h.bx, OwnC.block h.ow fun q hq => by
    obtain ⟨cs, fz, hc⟩ := own_typedV h.ow hq
    rw [cells_stay hg hr hc, hc], by
    rw [hg.block D (Array.getElem?_eq_some_iff.1 h.df).1 fun e => by have := (hr D e.symm).1; omega]
    exact h.df⟩
theorem AtB.grow0 (h : AtB g at_ a v' W) {row : Option Nat} (hg : W.grownBy W' row) (hr : ∀ r, row = some r → N0 ≤ r ∧ ∃ o : Obj, W.heap[r]? = some o ∧ o.isCells = false) : AtB g at_ a v' W' := ⟨cells_stay hg hr h.box, h.nt⟩
end
/-- kids laid one by one -/
def foldK (f : Nat) (ws : List Wd) (a : Int) (cs : List UInt8) (T : TM) : TM := cs.foldl (fun T c => layF f (sub ws c) (a + c.toNat + 1).toNat T) T
theorem foldK_snoc (f : Nat) (ws : List Wd) (a : Int) (cs : List UInt8) (c : UInt8) (T : TM) : foldK f ws a (cs ++ [c]) T = layF f (sub ws c) (a + c.toNat + 1).toNat (foldK f ws a cs T) := by
  unfold foldK
  rw [List.foldl_append]; rfl
theorem foldK_wf (f : Nat) (ws : List Wd) (a : Int) (L0 : Nat) : ∀ (cs : List UInt8) (T : TM), (∀ c ∈ cs, (a + c.toNat + 1).toNat < L0) → WfM T → L0 ≤ T.c.length →
    WfM (foldK f ws a cs T) ∧ T.c.length ≤ (foldK f ws a cs T).c.length ∧ (foldK f ws a cs T).c.length ≤ T.c.length + (cs.map fun c => costW (sub ws c)).sum
  | [], T, _, hT, _ => ⟨hT, Nat.le_refl _, Nat.le_add_right _ _⟩
  | c :: cs, T, hm, hT, hl => by
    obtain ⟨r1, r2, r3⟩ := lay_wf f (sub ws c) (a + c.toNat + 1).toNat T hT (Nat.lt_of_lt_of_le (hm c (by simp)) hl)
    obtain ⟨i1, i2, i3⟩ := foldK_wf f ws a L0 cs (layF f (sub ws c) (a + c.toNat + 1).toNat T) (fun d hd => hm d (by simp [hd])) r1 (by omega)
    unfold foldK at i1 i2 i3 ⊢
    rw [List.foldl_cons, List.map_cons, List.sum_cons]
    exact ⟨i1, by omega, by omega⟩
theorem sum_takeL (g : UInt8 → Nat) (cs : List UInt8) (i : Nat) (c : UInt8) (h : cs[i]? = some c) : ((cs.take i).map g).sum + g c ≤ (cs.map g).sum := by
  have h1 : cs.map g = (cs.take i).map g ++ g c :: (cs.drop (i + 1)).map g := by
    obtain ⟨hl, e⟩ := List.getElem?_eq_some_iff.1 h
    subst e
    rw [← List.map_cons (f := g), ← List.drop_eq_getElem_cons hl, ← List.map_append, List.take_append_drop]
  rw [h1, List.sum_append, List.sum_cons]
  omega
theorem info_byteL : (Try.prog.info? 5).map (fun i => (i.zero, i.size, i.bytes)) = some (some (.int .u8 0), 1, 1) := by kernel_rfl
theorem KN.of_putB {w : World} (W : World) (l : Nat) (o o' : Obj) (_ : w.heap.size ≤ l) (h : W.heap[l]? = some o) (h1 : o.isCells = false) (h2 : o.isWalk = false) : KN W (W.putObj l o') := KN.put h h1 h2
theorem kids_le (ws : List Wd) : (kids ws).length ≤ 256 := by
  unfold kids
  exact Nat.le_trans (List.length_filter_le _ _) (Nat.le_of_eq bytesU_len)
theorem kn_app {W w1 : World} {n0 b : Nat} {t e : TypeId} {size : Nat} {v v' : Value} {k : Nat} {xs : List Value} {tmp : Obj} (hv : Boxed W b t v) (ht : t ≠ 51 ∧ t ≠ 40) (hrow : W.ownsRow n0 e size v k xs) (he : e ≠ 51 ∧ e ≠ 40)
    (hg : (W.alloc tmp).grownBy w1 v.ownBlock) : KN W (w1.setCell ⟨b, 0, none⟩ v') := fun j o ho hj => by
  have hjl := (Array.getElem?_eq_some_iff.1 hj).1
  have h1 : j ≠ b := fun e1 => by
    subst e1
    rw [show W.heap[j]? = _ from hv] at hj
    obtain rfl := Option.some.inj hj
    rcases ho with ho | ⟨cs, t', fz, e2, ht'⟩
    · simp [Obj.isWalk] at ho
    · injection e2 with e3 e4 e5
      subst e4
      rcases ht' with h | h
      · exact ht.1 h
      · exact ht.2 h
  have h2 : some j ≠ v.ownBlock := fun e1 => by
    rcases hrow.2 with ⟨rfl, _⟩ | ⟨g, cap, cur, rfl, _, hgb, _⟩
    · simp [Value.ownBlock] at e1
    · obtain rfl : j = g := by simpa [Value.ownBlock] using e1
      rw [hgb] at hj
      obtain rfl := Option.some.inj hj
      rcases ho with ho | ⟨cs, t', fz, e2, ht'⟩
      · simp [Obj.isWalk] at ho
      · injection e2 with e3 e4 e5
        subst e4
        rcases ht' with h | h
        · exact he.1 h
        · exact he.2 h
  rw [Below.heap_setCell _ _ _ _ h1, hg.block j (by simp; omega) h2, Go.heap_alloc_old W _ hjl]
  exact hj
theorem own_free {B : Nat} {e : TypeId} {k : IntKind} {w : World} {q cap : Nat} {l : List Int} (h : OwnI B e k w (.slice (some ⟨q, 0, none⟩) l.length cap) l) {i : Nat} (hi : i < l.length) : w.frozen? ⟨q, i, none⟩ = false := OwnC.free h i (by omega)
attribute [local go_sem] Oper.semAt_some
set_option maxRecDepth 100000 in
set_option maxHeartbeats 4000000 in
theorem lay_walk (ws0 : List Wd) (A Mp : List UInt8 → Nat) (B g f : Nat) (IH : ∀ f', f' + 1 = f → LayC ws0 A Mp B g f') : LayC ws0 A Mp B g f := by
  intro p s M v w hM hW hs hL hT hp hf
  obtain ⟨ws, hws⟩ : ∃ ws, subs ws0 p = ws := ⟨_, rfl⟩
  obtain ⟨l, hN, hl⟩ := hT p hp
  rw [hws] at hL hf hN hl ⊢
  obtain ⟨len, hlen⟩ : ∃ len, M.c.length = len := ⟨_, rfl⟩
  obtain ⟨qw, cw, hvw⟩ := own_some hM.row.ow (by rw [hW.2.1]; omega)
  rw [hW.2.1, hlen] at hvw
  obtain ⟨wn, hwn⟩ : ∃ wn, wordN ws = wn := ⟨_, rfl⟩
  have hoW := hM.row.ow
  rw [hvw] at hoW
  have hoW' : OwnI B 3 .i64 w (.slice (some ⟨qw, 0, none⟩) M.w.length cw) M.w := by rw [hW.2.1, hlen]; exact hoW
  have k1 := own_at hoW' (i := s) (by rw [hW.2.1]; exact hs) (-1)
  have k2 := own_free hoW' (i := s) (by rw [hW.2.1]; exact hs)
  have hqw := (OwnC.lt hoW' qw rfl).2
  have c2 : w.cell? ⟨g, 2, none⟩ = some (.slice (some ⟨qw, 0, none⟩) len cw) := by rw [hM.box.cells.2.2.1, hvw]
  have cn : w.cell? ⟨A p, 0, none⟩ = some (.int .i64 wn) := by rw [cell_of_row w (A p) 0 _ _ _ hN.box, hwn]; rfl
  have hgl := hM.box.lt
  have hnl : A p < w.heap.size := (Array.getElem?_eq_some_iff.1 hN.box).1
  have hal : Below w.heap.size w (w.alloc (.cells #[ptrV g] 43)) := (Below.refl _ _).alloc (Nat.le_refl _) _
  have q0 : ∀ nq : WB (w.alloc (.cells #[ptrV g] 43)), nq.1.cell? ⟨w.heap.size, 0, none⟩ = some (ptrV g) := fun nq => by
    rw [nq.cell (by simp)]
    rw [cell_of_row _ w.heap.size 0 _ _ _ (Go.heap_alloc_new w _)]; rfl
  have q1 : ∀ nq : WB (w.alloc (.cells #[ptrV g] 43)), nq.1.cell? ⟨g, 2, none⟩ = some (.slice (some ⟨qw, 0, none⟩) len cw) := fun nq => by
    rw [nq.cell (by simp; omega), hal.cell hgl]; exact c2
  have q2 : ∀ nq : WB (w.alloc (.cells #[ptrV g] 43)), nq.1.cell? ⟨A p, 0, none⟩ = some (.int .i64 wn) := fun nq => by
    rw [nq.cell (by simp; omega), hal.cell hnl]; exact cn
  have q3 : ∀ nq : WB (w.alloc (.cells #[ptrV g] 43)), nq.1.cell? ⟨qw, s, none⟩ = some (.int .i64 (M.w.getD s (-1))) := fun nq => by
    rw [nq.cell (by simp; omega), hal.cell hqw]; exact k1
  have q4 : ∀ nq : WB (w.alloc (.cells #[ptrV g] 43)), nq.1.frozen? ⟨qw, s, none⟩ = false := fun nq => by
    rw [nq.2.frozen (by simp; omega), hal.frozen hqw]; exact k2
  have hsl : s < len := by omega
  have hl9 : len ≤ 900000000 := by omega
  have HM := Lib.hid hM
  have HW := Lib.hid hW
  have Hws := Lib.hid hws
  have HN := Lib.hid hN
  have Hl := Lib.hid hl
  have HL := Lib.hid hL
  have HT := Lib.hid hT
  have Hp := Lib.hid hp
  have Hf := Lib.hid hf
  have Hvw := Lib.hid hvw
  have Hlen := Lib.hid hlen
  have Hwn := Lib.hid hwn
  have HI := Lib.hid IH
  have HoW := Lib.hid hoW'
  clear hM hW hs hws hN hl hL hT hp hf hvw hlen hwn IH hoW hoW' k1 k2 c2 cn
  refine (callsIn_wide (n := 3)).1 (callsIn_of_wp_marks Try.func16 rfl trivial ?_ rfl)
  refine wpIn_wide.2 ?_
  simp only [Try.ntmps16, List.size_toArray, List.length_cons, List.length_nil, Nat.reduceAdd, Nat.reduceSub, Array.replicate_succ, Array.replicate_zero, List.push_toArray, List.append_toArray, List.nil_append, List.cons_append]
  repeat' (go_not_at_region 1; first | go_values | go_skip | go_guarded | go_step | go_upon)
  obtain ⟨wa, hwa⟩ : ∃ wa, w.alloc (.cells #[ptrV g] 43) = wa := ⟨_, rfl⟩
  have hba : wa.heap[w.heap.size]? = some (.cells #[ptrV g] 43 (0, 0)) := by rw [← hwa]; exact Go.heap_alloc_new w _
  rw [hwa] at q0 q1 q2 q3 q4 hal ⊢
  have HBa := Lib.hid hba
  have Hal := Lib.hid hal
  clear hwa hba hal
  refine wp_region_tail 11 (by kernel_rfl) (by kernel_rfl) wa (Below.refl _ _) ?_
  simp only [List.take_succ_cons, List.take_zero, List.drop_succ_cons, List.drop_zero]
  repeat (go_big_quiet_step ((fail)))
  refine wpQuiet_nil ?_
  rintro _ ⟨nq, rfl⟩
  have hnq := nq.2
  repeat' (go_not_at_region 2; first | go_values | go_skip | go_guarded | go_step | go_upon)
  have hsetW := (HM.out.keep (Hal.out.trans (hnq.mono Hal.out.size))).row.setW (g := g) (by rw [Hvw.out, HW.out.2.1, Hlen.out]) s wn
  refine gen_wd (fun W => LF B g w.heap.size v w W { M with w := M.w.set s wn } v) ⟨⟨MkB.setOther ((HM.out.keep (Hal.out.trans (hnq.mono Hal.out.size))).box) (fun e => (HM.out.row.ne_box HM.out.box).2.2 (by rw [Hvw.out, ← e]; rfl)), hsetW.1, HM.out.gB⟩, (MSt.of_below (Hal.out.trans (hnq.mono Hal.out.size)) HM.out.size).trans hsetW.2, ?_⟩ ?_
  · rw [Below.heap_setCell _ _ _ _ (by dsimp only; omega), hnq.block _ (Array.getElem?_eq_some_iff.1 HBa.out).1]
    exact HBa.out
  clear q0 q1 q2 q3 q4 hsetW hnq
  intro w2 H2
  have H2 := Lib.hid H2
  repeat' (first | go_values | go_skip | go_guarded | go_step | go_upon)
  refine Calls.mono (node_kids (some ⟨A p, 0, none⟩) _) ?_
  rintro _ w4 ⟨rfl, rfl⟩
  dsimp only
  repeat' (first | go_values | go_skip | go_guarded | go_step | go_upon)
  obtain ⟨cs, hcs⟩ : ∃ cs, kids ws = cs := ⟨_, rfl⟩
  have hkl : kidL l = cs.map fun c => (c, A (p ++ [c])) := by rw [← hcs]; exact kidL_eq Hl.out
  have hcl : cs.length ≤ 256 := by rw [← hcs]; exact kids_le ws
  have hT2 : TrAt w2 ws0 A Mp := HT.out.kn (H2.out.st.kn HM.out)
  have hN2 := HN.out.kn (H2.out.st.kn HM.out)
  have hbl : Below w2.heap.size w2 ((w2.alloc (.cells #[.slice none 0 0] 55)).alloc (.cells #[ptrV (A p)] 40)) := ((Below.refl _ _).alloc (Nat.le_refl _) _).alloc (by simp) _
  have hbx : ((w2.alloc (.cells #[.slice none 0 0] 55)).alloc (.cells #[ptrV (A p)] 40)).heap[(w2.alloc (.cells #[.slice none 0 0] 55)).heap.size]? = some (.cells #[ptrV (A p)] 40 (0, 0)) := Go.heap_alloc_new _ _
  obtain ⟨i0, hi, hz0, hz1, hz2⟩ := info_parts info_byteL
  refine wp_each (gf := 25) (lb := #[ptrV (w2.alloc (.cells #[.slice none 0 0] 55)).heap.size]) rfl (enters_of Try.func25 (by kernel_rfl) rfl)
    (kids_each _ (A p) (Mp p) (wordN ws) l _ hbx (hN2.kn (KN.of_below hbl))) KN.trans KN.of_putB (fun _ => rfl)
    (fun i W => (∃ x, Boxed W w2.heap.size 55 x ∧ W.ownsRow w2.heap.size 5 1 x (bI' (cs.take i)).length ((bI' (cs.take i)).map (Value.int .u8)) ∧ True) ∧ Below w2.heap.size w2 W)
    (OwnFrom.and (Own.from (holdsRow_own w2.heap.size w2.heap.size 55 5 1 (fun i => (bI' (cs.take i)).length) (fun i => (bI' (cs.take i)).map (Value.int .u8)) (fun _ _ => True)) _) (ownFrom_below (Nat.le_refl _) (by simp; omega)))
    ⟨⟨_, (Boxed.new w2 55 (.slice none 0 0)).alloc _, by rw [List.take_zero]; exact World.ownsRow_nil _ _ _ _, trivial⟩, hbl⟩ ?a1 ?assign ?body ?done
  case assign =>
    intro l' x W K hK
    gi_wp2
    exact hK
  case body =>
    rintro l' i x W hx ⟨⟨x0, hv, hrow, _⟩, hB⟩
    obtain ⟨c, q⟩ := x
    have hci : cs[i]? = some c := by
      rw [hkl, List.getElem?_map] at hx
      cases e : cs[i]? with
      | none => rw [e] at hx; simp at hx
      | some d => rw [e] at hx; simp at hx; rw [hx.1]
    have hil : i < cs.length := (List.getElem?_eq_some_iff.1 hci).1
    have hlt : (bI' (cs.take i)).length ≤ 256 := by rw [bI'_len, List.length_take]; omega
    have htk : (bI' (cs.take (i + 1))) = bI' (cs.take i) ++ [(c.toNat : Int)] := by
      rw [List.take_add_one, hci]
      unfold bI'
      rw [List.map_append]; rfl
    have hc := hv.cell
    have Hx := Lib.hid hx
    have Htk := Lib.hid htk
    have Hcs := Lib.hid hcs
    have Hkl := Lib.hid hkl
    have HB := Lib.hid hB
    clear hx hci htk hcs hkl hT2 hN2 hbl hbx hB
    gi_wp2_with (gi_at_builtin; refine wpListIn_append_own _ rfl _ _ 55 rfl w2.heap.size 5 i0 (.int .u8 0) 1 1 Try.underlying55 hi hz0 hz1 hz2 rfl (by decide) _ _ _ rfl (hrow.alloc _) ⟨W.heap.size, 0, none⟩ 1 1 [encB c] rfl rfl (cell_one_new _ _ _) (by simp [Value.oneCell']) (by unfold maxLen; omega) (by omega) (by have := HB.out.size; simp; omega) ?_; intro v' w1 hown' hgrow _; obtain ⟨g', cap', rfl⟩ := ownsRow_succ hown'; obtain ⟨hv1, hv2, hr2, hk2, hb2⟩ := hv.appended (by decide) hrow HB.out.size (Nat.le_refl _) hown' hgrow; have hc1 := hv1.cell; have hf1 := hv1.frozen)
    refine ⟨hk2.from _, kn_app hv ⟨by decide, by decide⟩ hrow ⟨by decide, by decide⟩ hgrow, ⟨_, hv2, ?_⟩, HB.out.trans hb2⟩
    rw [Htk.out, List.length_append, List.map_append]
    exact hr2
  case done =>
    rintro D W hD ⟨⟨x0, hv, hrow, _⟩, hB⟩ hK
    rw [hkl, List.length_map, List.take_of_length_le (Nat.le_refl _)] at hrow
    have H3 := Lib.hid (H2.out.below hB)
    have HO : Hid (OwnI w2.heap.size 5 .u8 W x0 (bI' cs)) := Lib.hid (OwnC.of_own hrow)
    have HV := Lib.hid hv
    have Hcs := Lib.hid hcs
    have HB := Lib.hid hB
    have HK := Lib.hid hK
    have HD := Lib.hid hD
    have HT2 := Lib.hid hT2
    have HN2 := Lib.hid hN2
    have hc := hv.cell
    clear hbl hbx hkl hcs hB hrow hv hK hD hT2 hN2 hi hz0 hz1 hz2
    dsimp only
    cases cs with
    | nil =>
      obtain ⟨a0, c0, e0⟩ := HO.out.form
      have e1 : x0 = .slice a0 0 c0 := e0
      rw [e1] at hc
      clear e0 e1
      have HE := Lib.hid (show layF (f + 1) ws s M = { M with w := M.w.set s wn } by
        unfold layF
        rw [Hcs.out, Hwn.out])
      have hDw : w.heap.size ≤ D := by
        have := HD.out
        have := H2.out.st.bel.size
        simp at *
        omega
      repeat' (first | go_values | go_skip | go_guarded | go_step | go_upon)
      refine ⟨by simp, .inl ⟨_, _, rfl, run_takeDeferred HK.out, ?_⟩⟩
      refine ⟨_, results_none rfl _ _ _, ⟨_, rfl⟩, v, ?_, H3.out.st.grow0 (grownBy_putObj' W D _) HM.out.size fun r e => by cases e; exact hDw⟩
      rw [HE.out]
      exact H3.out.ma.grow0 (grownBy_putObj' W D _) fun r e => by cases e; exact ⟨_, HK.out, rfl⟩
    | cons k ks =>
      obtain ⟨qx, cx, hqx⟩ := own_some HO.out (by rw [bI'_len]; simp)
      subst hqx
      obtain ⟨nx, hnx⟩ : ∃ nx, (bI' (k :: ks)).length = nx := ⟨_, rfl⟩
      have hnx1 : nx = (k :: ks).length := by rw [← hnx, bI'_len]
      rw [hnx] at hc HO HV
      have Hnx := Lib.hid hnx
      have hp2 : Hid ((k :: ks).Pairwise fun a b => a.toNat < b.toNat) := Lib.hid (Hcs.out ▸ kids_lt ws)
      have hnx2 : nx ≤ 256 := by rw [hnx1]; exact hcl
      have hnx3 : 0 < nx := by rw [hnx1]; simp
      have hne : ((nx : Int) == 0) = false := beq_false_of_ne (by omega)
      have hks : ks.length ≤ 255 := by rw [hnx1] at hnx2; simp at hnx2; omega
      have HG : Hid (LG B g w.heap.size w2.heap.size D w2.heap.size (.slice (some ⟨qx, 0, none⟩) nx cx) (bI' (k :: ks)) v w W { M with w := M.w.set s wn } v) := Lib.hid ⟨H3.out, HV.out, HO.out, HK.out⟩
      have cm : W.cell? ⟨w.heap.size, 0, none⟩ = some (ptrV g) := by rw [cell_of_row W w.heap.size 0 _ _ _ H3.out.box]; rfl
      have Hnx1 := Lib.hid hnx1
      have HW1 : Hid (WfM { M with w := M.w.set s wn }) := Lib.hid ⟨HW.out.1, by show (M.w.set _ _).length = _; rw [List.length_set]; exact HW.out.2.1, HW.out.2.2⟩
      obtain ⟨a, ha⟩ : ∃ a, baseF { M with w := M.w.set s wn } k ks = a := ⟨_, rfl⟩
      have Ha := Lib.hid ha
      clear hnx hnx1 hcl ha
      repeat' (first | go_values | go_skip | go_guarded | go_step | go_upon)
      refine Calls.mono (mk_base B w2.heap.size g { M with w := M.w.set s wn } v k ks (.slice (some ⟨qx, 0, none⟩) nx cx) W H3.out.ma HW.out.2.2 (by have := Hlen.out; show M.c.length ≤ _; omega) (List.pairwise_cons.1 hp2.out).1 hks HO.out) ?_
      rintro _ w5 ⟨rfl, hM5, hS5⟩
      dsimp only
      rw [Ha.out]
      have HG5 := Lib.hid (HG.out.step hM5 hS5)
      clear hc cm hM5 hS5
      repeat' (first | go_values | go_skip | go_guarded | go_step | go_upon)
      have hb6 : Below w5.heap.size w5 (w5.alloc (.cells #[.int .i64 a] 3)) := (Below.refl _ _).alloc (Nat.le_refl _) _
      have HA6 : AtB g w5.heap.size a v (w5.alloc (.cells #[.int .i64 a] 3)) := ⟨Go.heap_alloc_new _ _, HG5.out.lf.ma.ntch (Nat.le_refl _)⟩
      have HG6 := HG5.out.below hb6
      obtain ⟨w6, hw6⟩ : ∃ w6, w5.alloc (.cells #[.int .i64 a] 3) = w6 := ⟨_, rfl⟩
      obtain ⟨at_, hat⟩ : ∃ at_, w5.heap.size = at_ := ⟨_, rfl⟩
      rw [hw6] at HG6 HA6 ⊢
      rw [hat] at HA6 ⊢
      clear hw6 hat hb6
      have hba := base_at (M := { M with w := M.w.set s wn }) (k := k) (ks := ks) HW.out.2.2 (List.pairwise_cons.1 hp2.out).1
      rw [Ha.out] at hba
      obtain ⟨hba1, hba2, hba3⟩ := hba
      have hba3' : a + k.toNat + 1 ≤ (len : Int) := by rw [← Hlen.out]; exact hba3
      have hbl0 := (hba1 k (by simp)).1
      have hbl1 := last_ge hp2.out (by simp) k (by simp)
      have hbl2 : lastF k ks < 256 := UInt8.toNat_lt _
      have hbl3 : k.toNat ≤ lastF k ks := hbl1
      obtain ⟨N, hN⟩ : ∃ N : Nat, a + (lastF k ks : Nat) + 2 = N := ⟨(a + (lastF k ks : Nat) + 2).toNat, by omega⟩
      obtain ⟨n1, hn1⟩ : ∃ n1 : Nat, nx = n1 + 1 := ⟨nx - 1, by omega⟩
      have hN9 : N ≤ 1000000000 := by omega
      have hlast := bI'_last k ks (n := n1) (by rw [← Hnx1.out]; exact hn1)
      obtain ⟨bl, hbl⟩ : ∃ bl, lastF k ks = bl := ⟨_, rfl⟩
      rw [hbl] at hlast hN hbl2
      have hn1' : (nx : Int) - 1 = (n1 : Int) := by omega
      have hn1x : n1 < nx := by omega
      have ha1 : -255 ≤ a := hba2
      have ha2 : a ≤ 1000000000 := by omega
      have q0 : ∀ nq : WB w6, nq.1.cell? ⟨w.heap.size, 0, none⟩ = some (ptrV g) := fun nq => by
        rw [cell_of_row nq.1 w.heap.size 0 _ _ _ (HG6.below nq.2).lf.box]; rfl
      have q1 : ∀ nq : WB w6, nq.1.cell? ⟨at_, 0, none⟩ = some (.int .i64 a) := fun nq => by
        rw [cell_of_row nq.1 at_ 0 _ _ _ (HA6.below nq.2).box]; rfl
      have q2 : ∀ nq : WB w6, nq.1.cell? ⟨w2.heap.size, 0, none⟩ = some (.slice (some ⟨qx, 0, none⟩) nx cx) := fun nq => (HG6.below nq.2).bx.cell
      have q3 : ∀ nq : WB w6, nq.1.cell? ⟨qx, n1, none⟩ = some (.int .u8 (bl : Nat)) := fun nq => by
        have h1 := (HG6.below nq.2).ow
        rw [← Hnx.out] at h1
        rw [own_at h1 (i := n1) (by rw [Hnx.out]; exact hn1x) 0, hlast]
      have Hbl := Lib.hid hbl
      have HN' := Lib.hid hN
      have HG6 := Lib.hid HG6
      have HA6 := Lib.hid HA6
      have Hba := Lib.hid hba1
      have Hba3 := Lib.hid hba3'
      have Hn1 := Lib.hid hn1
      clear hba1 hba2 hba3 hba3' hbl0 hbl1 hbl3 hbl hlast hn1
      obtain ⟨M5, hM5⟩ : ∃ M5 : TM, M5 = { M with w := M.w.set s wn, free := freeF M.c (M.c.length + 1) M.free } := ⟨_, rfl⟩
      have HG6 : Hid (LG B g w.heap.size w2.heap.size D w2.heap.size (.slice (some ⟨qx, 0, none⟩) nx cx) (bI' (k :: ks)) v w w6 M5 v) := Lib.hid (by rw [hM5]; exact HG6.out)
      have hl5 : M5.b.length = len ∧ M5.c.length = len ∧ M5.w.length = len := by
        rw [hM5]
        exact ⟨by rw [← Hlen.out]; exact HW.out.1, Hlen.out, by show (M.w.set _ _).length = _; rw [List.length_set, ← Hlen.out]; exact HW.out.2.1⟩
      have HM5 := Lib.hid hM5
      have Hl5 := Lib.hid hl5
      clear hM5 hl5
      refine wp_region_tail 11 (by kernel_rfl) (by kernel_rfl) w6 (Below.refl _ _) ?_
      simp only [List.take_succ_cons, List.take_zero, List.drop_succ_cons, List.drop_zero]
      repeat (go_big_quiet_step ((fail)))
      refine wpQuiet_nil ?_
      rintro _ ⟨nq, rfl⟩
      have hnq := nq.2
      repeat' (first | go_values | go_skip | go_guarded | go_step | go_upon)
      refine Calls.mono (mk_reach B g N M5 v _ (HG6.out.below hnq).lf.ma (by rw [Hl5.out.1, Hl5.out.2.1]) (by rw [Hl5.out.2.2, Hl5.out.2.1]) hN9 (by rw [Hl5.out.2.1]; omega)) ?_
      rintro _ w7 ⟨v7, ⟨u7, rfl⟩, hM7, hS7⟩
      dsimp only
      have HG7 := Lib.hid ((HG6.out.below hnq).step hM7 hS7)
      have HA7 := Lib.hid ((HA6.out.below hnq).step hS7)
      clear hM7 hS7 q0 q1 q2 q3 hnq
      obtain ⟨L7, hL7⟩ : ∃ L7, L7 = max len N := ⟨_, rfl⟩
      have g1 : (M5.grow N).b.length = L7 := by show (growF _ _ _).length = _; rw [len_grow, Hl5.out.1, hL7]
      have g2 : (M5.grow N).c.length = L7 := by show (growF _ _ _).length = _; rw [len_grow, Hl5.out.2.1, hL7]
      have g3 : (M5.grow N).w.length = L7 := by show (growF _ _ _).length = _; rw [len_grow, Hl5.out.2.2, hL7]
      have hs7 : s < L7 := by omega
      have hN7 : N ≤ L7 := by omega
      have hL79 : L7 ≤ 1000000000 := by omega
      obtain ⟨M7, hM7⟩ : ∃ M7, M5.grow N = M7 := ⟨_, rfl⟩
      rw [hM7] at HG7 g1 g2 g3
      obtain ⟨qb, cb, hvb⟩ := own_some HG7.out.lf.ma.row.ob (by omega)
      obtain ⟨qc, cc, hvc⟩ := own_some HG7.out.lf.ma.row.oc (by omega)
      have HM7 := Lib.hid hM7
      have Hvb := Lib.hid hvb
      have Hvc := Lib.hid hvc
      have Hg1 := Lib.hid g1
      have Hg2 := Lib.hid g2
      have Hg3 := Lib.hid g3
      have HL7 := Lib.hid hL7
      clear hM7 hvb hvc g1 g2 g3 hL7
      have q0 : ∀ nq : WB w7, nq.1.cell? ⟨w.heap.size, 0, none⟩ = some (ptrV g) := fun nq => by
        rw [cell_of_row nq.1 w.heap.size 0 _ _ _ (HG7.out.below nq.2).lf.box]; rfl
      have q1 : ∀ nq : WB w7, nq.1.cell? ⟨at_, 0, none⟩ = some (.int .i64 a) := fun nq => by
        rw [cell_of_row nq.1 at_ 0 _ _ _ (HA7.out.below nq.2).box]; rfl
      have q2 : ∀ nq : WB w7, nq.1.cell? ⟨g, 0, none⟩ = some (.slice (some ⟨qb, 0, none⟩) L7 cb) := fun nq => by
        rw [(HG7.out.below nq.2).lf.ma.box.cells.1, Hvb.out, Hg1.out]
      have q3 : ∀ nq : WB w7, nq.1.cell? ⟨qb, s, none⟩ = some (.int .i64 (M7.b.getD s 0)) ∧ nq.1.frozen? ⟨qb, s, none⟩ = false := fun nq => by
        have h1 := (HG7.out.below nq.2).lf.ma.row.ob
        rw [Hvb.out] at h1
        exact ⟨own_at h1 (by rw [Hg1.out]; exact hs7) 0, own_free h1 (by rw [Hg1.out]; exact hs7)⟩
      have q4 := fun nq : WB w7 => (q3 nq).1
      have q5 := fun nq : WB w7 => (q3 nq).2
      clear q3
      repeat' (go_not_at_region 9; first | go_values | go_skip | go_guarded | go_step | go_upon)
      refine wp_region_tail 8 (by kernel_rfl) (by kernel_rfl) w7 (Below.refl _ _) ?_
      simp only [List.take_succ_cons, List.take_zero, List.drop_succ_cons, List.drop_zero]
      repeat (go_big_quiet_step ((fail)))
      refine wpQuiet_nil ?_
      rintro _ ⟨nq, rfl⟩
      have hnq := nq.2
      repeat' (go_not_at_region 10; first | go_values | go_skip | go_guarded | go_step | go_upon)
      have hG8 := HG7.out.below hnq
      have hset := hG8.lf.ma.row.setB (g := g) Hvb.out s a
      refine gen_wd (fun W => LG B g w.heap.size w2.heap.size D w2.heap.size (.slice (some ⟨qx, 0, none⟩) nx cx) (bI' (k :: ks)) v w W { M7 with b := M7.b.set s a } v7 ∧ AtB g at_ a v7 W) ⟨hG8.step ⟨hG8.lf.ma.box.setOther fun e => (hG8.lf.ma.row.ne_box hG8.lf.ma.box).1 (by rw [Hvb.out, ← e]; rfl), hset.1, hG8.lf.ma.gB⟩ hset.2, (HA7.out.below hnq).step hset.2⟩ ?_
      clear q0 q1 q2 q4 q5 hG8 hset hnq
      rintro w9 ⟨hG9, hA9⟩
      have HG9 := Lib.hid hG9
      have HA9 := Lib.hid hA9
      have hc := hG9.bx.cell
      clear hG9 hA9
      repeat' (first | go_values | go_skip | go_guarded | go_step | go_upon)
      go_loopg [60] nx (fun gk s60 wr => ∃ t : Nat, s60 = .int .i64 t ∧ t + gk = nx ∧ Hid (LG B g w.heap.size w2.heap.size D w2.heap.size (.slice (some ⟨qx, 0, none⟩) nx cx) (bI' (k :: ks)) v w wr { M7 with b := M7.b.set s a, c := setAll M7.c a s ((k :: ks).take t) } v7) ∧ Hid (AtB g at_ a v7 wr))
      case atStart => exact ⟨0, rfl, by omega, HG9, HA9⟩
      case round =>
        obtain ⟨t, rfl, ht, HGt, HAt⟩ := hrel
        by_cases hlt : t < nx
        · have hlt' : (t : Int) < nx := by omega
          obtain ⟨b, hb⟩ : ∃ b, (k :: ks)[t]? = some b := ⟨_, List.getElem?_eq_getElem (by rw [← Hnx1.out]; exact hlt)⟩
          have hbm := List.mem_of_getElem? hb
          obtain ⟨bn, hbn⟩ : ∃ bn, b.toNat = bn := ⟨_, rfl⟩
          have hb8 : bn < 256 := by rw [← hbn]; exact UInt8.toNat_lt _
          have gx : wr.cell? ⟨qx, t, none⟩ = some (.int .u8 (bn : Nat)) := by
            have h1 := HGt.out.ow
            rw [← Hnx.out] at h1
            rw [own_at h1 (i := t) (by rw [Hnx.out]; exact hlt) 0, bI'_at _ (by rw [← Hnx1.out]; exact hlt), List.getD_eq_getElem?_getD, hb]
            simp only [Option.getD_some]
            rw [hbn]
          have hpl := (Hba.out b hbm).1
          have hple := last_ge hp2.out (by simp) b hbm
          have hple' : b.toNat ≤ lastF k ks := hple
          obtain ⟨pn, hpn⟩ : ∃ pn : Nat, a + (bn : Int) + 1 = pn := ⟨(a + (bn : Int) + 1).toNat, by omega⟩
          have hpn7 : pn < L7 := by
            have := HN'.out
            have := Hbl.out
            omega
          have hcl : (setAll M7.c a s ((k :: ks).take t)).length = L7 := by rw [len_setAll, Hg2.out]
          have q0 : ∀ nq : WB wr, nq.1.cell? ⟨w.heap.size, 0, none⟩ = some (ptrV g) := fun nq => by
            rw [cell_of_row nq.1 w.heap.size 0 _ _ _ (HGt.out.below nq.2).lf.box]; rfl
          have q1 : ∀ nq : WB wr, nq.1.cell? ⟨at_, 0, none⟩ = some (.int .i64 a) := fun nq => by
            rw [cell_of_row nq.1 at_ 0 _ _ _ (HAt.out.below nq.2).box]; rfl
          have q2 : ∀ nq : WB wr, nq.1.cell? ⟨g, 1, none⟩ = some (.slice (some ⟨qc, 0, none⟩) L7 cc) := fun nq => by
            rw [(HGt.out.below nq.2).lf.ma.box.cells.2.1, Hvc.out, Hg2.out]
          have hvc' : v7.c = .slice (some ⟨qc, 0, none⟩) (setAll M7.c a s ((k :: ks).take t)).length cc := by rw [hcl, Hvc.out, Hg2.out]
          have q3 : ∀ nq : WB wr, nq.1.cell? ⟨qc, pn, none⟩ = some (.int .i64 ((setAll M7.c a s ((k :: ks).take t)).getD pn 0)) ∧ nq.1.frozen? ⟨qc, pn, none⟩ = false := fun nq => by
            have h1 := (HGt.out.below nq.2).lf.ma.row.oc
            rw [hvc'] at h1
            exact ⟨own_at h1 (by rw [hcl]; exact hpn7) 0, own_free h1 (by rw [hcl]; exact hpn7)⟩
          have q4 := fun nq : WB wr => (q3 nq).1
          have q5 := fun nq : WB wr => (q3 nq).2
          have Hb := Lib.hid hb
          have Hbn := Lib.hid hbn
          have Hvc' := Lib.hid hvc'
          have Hpn := Lib.hid hpn
          clear q3 hb hbn hbm hpl hple hple' hcl hvc'
          repeat' (go_not_at_region 13; first | go_values | go_skip | go_guarded | go_step | go_upon)
          refine wp_region_tail 12 (by kernel_rfl) (by kernel_rfl) wr (Below.refl _ _) ?_
          simp only [List.take_succ_cons, List.take_zero, List.drop_succ_cons, List.drop_zero]
          repeat (go_big_quiet_step ((fail)))
          refine wpQuiet_nil ?_
          rintro _ ⟨nq, rfl⟩
          have hnq := nq.2
          repeat' (go_not_at_region 14; first | go_values | go_skip | go_guarded | go_step | go_upon)
          have hG8 := HGt.out.below hnq
          have hset := hG8.lf.ma.row.setC (g := g) Hvc'.out pn s
          refine gen_wd (fun W => LG B g w.heap.size w2.heap.size D w2.heap.size (.slice (some ⟨qx, 0, none⟩) nx cx) (bI' (k :: ks)) v w W { M7 with b := M7.b.set s a, c := (setAll M7.c a s ((k :: ks).take t)).set pn s } v7 ∧ AtB g at_ a v7 W) ⟨hG8.step ⟨hG8.lf.ma.box.setOther fun e => (hG8.lf.ma.row.ne_box hG8.lf.ma.box).2.1 (by rw [Hvc'.out, ← e]; rfl), hset.1, hG8.lf.ma.gB⟩ hset.2, (HAt.out.below hnq).step hset.2⟩ ?_
          clear q0 q1 q2 q4 q5 hG8 hset hnq gx
          rintro wt ⟨hGt, hAt⟩
          have HGt2 := Lib.hid hGt
          have HAt2 := Lib.hid hAt
          clear hGt hAt
          repeat' (first | go_values | go_skip | go_guarded | go_step | go_upon)
          go_roundg (gk - 1)
          case measure => omega
          case rel =>
            refine ⟨t + 1, by go_num, by omega, Lib.hid ?_, HAt2⟩
            rw [List.take_add_one, Hb.out, Option.toList_some, setAll_snoc, Hbn.out, Hpn.out, Int.toNat_natCast]
            exact HGt2.out
        · have hlt' : (nx : Int) ≤ t := by omega
          have HGt2 : Hid (LG B g w.heap.size w2.heap.size D w2.heap.size (.slice (some ⟨qx, 0, none⟩) nx cx) (bI' (k :: ks)) v w wr (putF { M with w := M.w.set s wn } s k ks) v7) := Lib.hid (by
            have h1 := HGt.out
            rw [List.take_of_length_le (by rw [← Hnx1.out]; omega)] at h1
            have e : ({ M7 with b := M7.b.set s a, c := setAll M7.c a s (k :: ks) } : TM) = putF { M with w := M.w.set s wn } s k ks := by
              unfold putF
              dsimp only
              rw [Ha.out, Hbl.out, HN'.out, Int.toNat_natCast, ← HM7.out, HM5.out]
              rfl
            rw [e] at h1
            exact h1)
          clear HGt hlt
          repeat' (first | go_values | go_skip | go_guarded | go_step | go_upon)
          refine Calls.mono (node_kids (some ⟨A p, 0, none⟩) _) ?_
          rintro _ w11 ⟨rfl, rfl⟩
          dsimp only
          repeat' (first | go_values | go_skip | go_guarded | go_step | go_upon)
          have hb12 : Below wr.heap.size wr (wr.alloc (.cells #[ptrV (A p)] 40)) := (Below.refl _ _).alloc (Nat.le_refl _) _
          have hbx2 : (wr.alloc (.cells #[ptrV (A p)] 40)).heap[wr.heap.size]? = some (.cells #[ptrV (A p)] 40 (0, 0)) := Go.heap_alloc_new _ _
          have hG12 := HGt2.out.below hb12
          have hA12 := HAt.out.below hb12
          obtain ⟨w12, hw12⟩ : ∃ w12, wr.alloc (.cells #[ptrV (A p)] 40) = w12 := ⟨_, rfl⟩
          rw [hw12] at hb12 hbx2 hG12 hA12 ⊢
          have hk12 : KN w w12 := hG12.lf.st.kn HM.out
          have hN12 := HN.out.kn hk12
          have hkl : kidL l = (k :: ks).map fun c => (c, A (p ++ [c])) := by rw [← Hcs.out]; exact kidL_eq Hl.out
          have hDl : D < w12.heap.size := (Array.getElem?_eq_some_iff.1 hG12.df).1
          have hwl : w.heap.size ≤ w12.heap.size := hG12.lf.st.bel.size
          refine wp_each (gf := 25) (lb := #[ptrV wr.heap.size]) rfl (enters_of Try.func25 (by kernel_rfl) rfl)
            (kids_each _ (A p) (Mp p) (wordN ws) l _ hbx2 hN12) KN.trans KN.of_putB (fun _ => rfl)
            (fun i W => ∃ v', LG B g w.heap.size w2.heap.size D w2.heap.size (.slice (some ⟨qx, 0, none⟩) nx cx) (bI' (k :: ks)) v w W (foldK f ws a ((k :: ks).take i) (putF { M with w := M.w.set s wn } s k ks)) v' ∧ AtB g at_ a v' W)
            (fun i W W' row ⟨v', h1, h2⟩ hg hr => ⟨v', h1.grow0 hg hr hDl hwl HM.out.size, h2.grow0 hg hr⟩)
            ⟨v7, hG12, hA12⟩ ?a2 ?assign2 ?body2 ?done2
          case assign2 =>
            intro l' x W K hK
            gi_wp2
            exact hK
          case body2 =>
            rintro l' i x W hx ⟨v', hG, hA⟩
            obtain ⟨c, q⟩ := x
            obtain ⟨hci, hqe⟩ : (k :: ks)[i]? = some c ∧ q = A (p ++ [c]) := by
              rw [hkl, List.getElem?_map] at hx
              cases e : (k :: ks)[i]? with
              | none => rw [e] at hx; simp at hx
              | some d => rw [e] at hx; simp at hx; exact ⟨by rw [hx.1], by rw [← hx.2, hx.1]⟩
            subst hqe
            have hcm := List.mem_of_getElem? hci
            have hck : c ∈ kids ws := by rw [Hcs.out]; exact hcm
            have hsub : sub ws c ≠ [] := mem_kids.1 hck
            have hp' : subs ws0 (p ++ [c]) = sub ws c := by rw [subs_snoc, Hws.out]
            obtain ⟨y, hy⟩ := List.exists_mem_of_ne_nil _ hsub
            have hyl := Hf.out _ (mem_sub.1 hy)
            obtain ⟨f', hf'⟩ : ∃ f', f' + 1 = f := ⟨f - 1, by simp at hyl; omega⟩
            obtain ⟨q1, q2, q3⟩ := put_max (s := s) HW1.out hp2.out
            obtain ⟨z1, z2⟩ := put_wf (s := s) (k := k) (ks := ks) HW1.out
            rw [Ha.out] at q3
            have hkc := kids_cost Hcs.out (len := M.c.length) q2 q1
            obtain ⟨y1, y2, y3⟩ := foldK_wf f ws a _ ((k :: ks).take i) _ (fun d hd => (q3 d (List.mem_of_mem_take hd)).1) z1 (Nat.le_refl _)
            have hsm := sum_takeL (fun c => costW (sub ws c)) (k :: ks) i c hci
            obtain ⟨pn, hpn⟩ : ∃ pn : Nat, a + (c.toNat : Nat) + 1 = pn := ⟨(a + (c.toNat : Nat) + 1).toNat, by have := (q3 c hcm).2; omega⟩
            have hq3c := (q3 c hcm).1
            rw [hpn, Int.toNat_natCast] at hq3c
            have hIH := HI.out f' hf' (p ++ [c]) pn _ v' W hG.lf.ma y1 (Nat.lt_of_lt_of_le hq3c y2) (by rw [hp']; have := HL.out; omega) (HT.out.kn (hG.lf.st.kn HM.out)) (.inr (by rw [hp']; exact hsub)) (fun y hy => by
              rw [hp'] at hy
              have := Hf.out _ (mem_sub.1 hy)
              simp at this
              omega)
            rw [hp', hf'] at hIH
            have hcb := UInt8.toNat_lt c
            have cm : W.cell? ⟨w.heap.size, 0, none⟩ = some (ptrV g) := by rw [cell_of_row W w.heap.size 0 _ _ _ hG.lf.box]; rfl
            have ca : W.cell? ⟨at_, 0, none⟩ = some (.int .i64 a) := by rw [cell_of_row W at_ 0 _ _ _ hA.box]; rfl
            have hpn9 : (pn : Int) ≤ 1000000000 := by have := HL.out; omega
            have Htk := Lib.hid (show (k :: ks).take (i + 1) = (k :: ks).take i ++ [c] by rw [List.take_add_one, hci]; rfl)
            have HIH := Lib.hid hIH
            have HG := Lib.hid hG
            have HA := Lib.hid hA
            have Hpn := Lib.hid hpn
            obtain ⟨cn, hcn⟩ : ∃ cn, c.toNat = cn := ⟨_, rfl⟩
            rw [hcn] at hcb hpn
            have Hcn := Lib.hid hcn
            clear hx hci hcm hck hsub hp' hy hyl q1 q2 q3 z1 z2 hkc y1 y2 y3 hsm hq3c hIH hG hA hkl hN12 hk12 hbx2 hb12 hw12
            simp only [encB, hcn]
            clear hcn
            gi_wp2_with (refine ⟨trivial, ?_⟩; gi_at_call 16; refine (CallsIn.inRound l' (callsIn_wide.2 HIH.out)).mono ?_; rintro e W' ⟨⟨u, rfl⟩, v'', hm, hs⟩)
            refine ⟨(hs.others HG.out.lf.ma).from _, hs.kn HG.out.lf.ma, v'', ?_, HA.out.step hs⟩
            have h9 := HG.out.step hm hs
            have e9 : layF f (sub ws c) pn (foldK f ws a ((k :: ks).take i) (putF { M with w := M.w.set s wn } s k ks)) = foldK f ws a ((k :: ks).take (i + 1)) (putF { M with w := M.w.set s wn } s k ks) := by
              rw [Htk.out, foldK_snoc, Hpn.out, Int.toNat_natCast]
            rw [e9] at h9
            exact h9
          case done2 =>
            rintro D2 W hD2 ⟨v', hG, hA⟩ hK2
            rw [hkl, List.length_map, List.take_of_length_le (Nat.le_refl _)] at hG
            have HG := Lib.hid hG
            have HK2 := Lib.hid hK2
            have hDD : D2 ≠ D := by omega
            have hw2 : w.heap.size ≤ D2 := Nat.le_trans hwl hD2
            have hw1 : w.heap.size ≤ D := by
              have := HD.out
              have := H2.out.st.bel.size
              simp at *
              omega
            clear hG hA hK2 hkl hN12 hk12 hbx2 hb12 hw12 hG12 hA12
            dsimp only
            repeat' (first | go_values | go_skip | go_guarded | go_step | go_upon)
            refine ⟨by simp, .inl ⟨_, _, rfl, run_takeDeferred HK2.out, ?_⟩⟩
            have hd1 : (W.putObj D2 (.deferred none)).heap[D]? = some (.deferred (some [])) := (World.putObj_heap_other (fun e => hDD e.symm)).trans HG.out.df
            refine ⟨by simp, .inl ⟨_, _, rfl, run_takeDeferred hd1, ?_⟩⟩
            have hm1 := HG.out.lf.ma.grow0 (grownBy_putObj' W D2 (.deferred none)) fun r e => by cases e; exact ⟨_, HK2.out, rfl⟩
            have hm2 := hm1.grow0 (grownBy_putObj' _ D (.deferred none)) fun r e => by cases e; exact ⟨_, hd1, rfl⟩
            refine ⟨_, results_none rfl _ _ _, ⟨_, rfl⟩, v', ?_, (HG.out.lf.st.grow0 (grownBy_putObj' W D2 _) HM.out.size fun r e => by cases e; exact hw2).grow0 (grownBy_putObj' _ D _) HM.out.size fun r e => by cases e; exact hw1⟩
            have e9 : foldK f ws a (k :: ks) (putF { M with w := M.w.set s wn } s k ks) = layF (f + 1) ws s M := by
              rw [layF, Hcs.out]
              dsimp only
              rw [Hwn.out, show baseF M k ks = a from Ha.out]
              rfl
            rw [← e9]
            exact hm2
theorem mk_lay (ws0 : List Wd) (A Mp : List UInt8 → Nat) (B g : Nat) : ∀ f, LayC ws0 A Mp B g f
  | 0 => lay_walk ws0 A Mp B g 0 fun f' h => by omega
  | f + 1 => lay_walk ws0 A Mp B g (f + 1) fun f' h => by
    obtain rfl : f' = f := by omega
    exact mk_lay ws0 A Mp B g f'
end Go.Proofs.Ytndekogkfbhabaa
