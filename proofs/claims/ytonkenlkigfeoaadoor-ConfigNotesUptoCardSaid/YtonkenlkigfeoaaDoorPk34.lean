/- Walk: a split's line of a configuration. Conditions: a text of at most 65536 bytes; what was read lies so. -/
import Derived.Test.YtonkenlkigfeoaaDoorPk33
import Derived.Test.YtonkenlkigfeoaaDoorPk32
import Derived.Test.YtonkenlkigfeoaaDoorPk10
import Derived.Deep.MidRow
namespace Go.Proofs.YtonkenlkigfeoaaDoor
open Go.RowKit Go.Lib
/-- behind a split: the tree has rows of its own -/
theorem StX.split {B tb tc tb' tc' : Nat} {vs : List Value} {w0 w : World} {V : CV} {st : CS} {r : RN} {t : Re} (h : StX B tb tc vs w0 V st) (hK : ∀ k, B ≤ k → k < w0.heap.size → w.heap[k]? = w0.heap[k]?) (h1 : w0.heap.size ≤ tb') (h2 : tc' ≤ w.heap.size) (hz : w0.heap.size ≤ w.heap.size) (hm : KvAt w V.mp st.ids) (hr : ReS tb' tc' w r t) :
   StX B tb' tc' vs w { V with r := r, sp := true } { st with c := { st.c with re := t }, split := true } := by
 have go : ∀ {α : Type} {f : α → List Value} {s : Nat} {e : TypeId} {v : Value} {l : List α}, OX f s B tb tc e w0 v l → OX f s B tb' tc' e w v l := fun h => ⟨h.1.other fun k hk => hK k (h.1.below hk).1 (h.1.below hk).2, fun k hk => .inl (Nat.lt_of_lt_of_le (h.1.below hk).2 h1)⟩
 exact ⟨Nat.le_trans h.sz hz, h2, Nat.le_trans h.sz h1, go h.p, h.pl, fun i u l hu hl => go (h.pr i u l hu hl), h.pd, go h.m, go h.n, go h.b, go h.a, h.ab, hr, rfl, hm, h.mp⟩
/-- what is told of the text between: its error, or a tree -/
theorem ex_out {s : List UInt8} {en i : Nat} {r : RN} {er at' : Int} {B : Nat} {W : World} (h : ParsX ((s.drop i).take (en - i)) r er at' B W) (hi : i ≤ en) :
   r.v.oneCell' = true ∧ ((∃ e0 j : Nat, e0 ≠ 0 ∧ er = e0 ∧ at' = j ∧ i + j ≤ en ∧ splitR s en i = .bad e0 (i + j)) ∨ (er = 0 ∧ ∃ t, splitR s en i = .ok t en ∧ ∃ p, ReX B p W r t)) := by
 unfold ParsX at h; unfold splitR
 cases hp : prsA ((s.drop i).take (en - i)) with
 | out => rw [hp] at h; exact h.elim
 | bad e j =>
   rw [hp] at h; obtain ⟨h1, h2, rfl⟩ := h; have := prsA_le hp; rw [List.length_take] at this; exact ⟨rfl, .inl ⟨e, j, prsA_nz hp, h1, h2, by omega, rfl⟩⟩
 | ok t j =>
   rw [hp] at h; obtain ⟨h0, h⟩ := h; dsimp only
   rcases h with ⟨h1, k, h2, h3, p, h4⟩ | ⟨h1, rfl, k, w0, r0, h2, h3⟩
   · have hd : ¬ tooDeep t := by
       rintro ⟨k', w', r', h5, h6⟩; rw [dep_eq h5 h2] at h6; omega
     exact ⟨h4.one, .inr ⟨h1, t, if_neg hd, p, h4⟩⟩
   · exact ⟨rfl, .inl ⟨2, 0, by decide, h1, h0, by omega, if_pos ⟨k, w0, r0, h2, h3⟩⟩⟩
/-- the world while an expression is read -/
structure ExF (B g m : Nat) (S : ByteArray) (i en bg : Nat) (V : CV) (st : CS) (w W0 W : World) (bt : Nat) (r0 : RN) : Prop where
 pc : PcAt W g S i en bg V
 bx : ReBox W bt r0
 md : Mid B g m w W
 kp : ∀ k, B ≤ k → k < W0.heap.size → W.heap[k]? = W0.heap[k]?
 kv : KvAt W V.mp st.ids
 lt : W0.heap.size ≤ bt
 sz : W0.heap.size ≤ W.heap.size
/-- where the tree lies -/
def TrF (W0 W : World) (bt : Nat) (r : RN) (t : Re) : Prop := ∃ tb' tc', W0.heap.size ≤ tb' ∧ tc' ≤ W.heap.size ∧ (bt < tb' ∨ tc' ≤ bt) ∧ ReS tb' tc' W r t
theorem ExF.put {B g m : Nat} {S : ByteArray} {i en bg : Nat} {V : CV} {st : CS} {w W0 W : World} {bt : Nat} {r0 : RN} (h : ExF B g m S i en bg V st w W0 W bt r0) (hB : B ≤ W0.heap.size) (hgB : g < B) (hmB : V.mp < B) (r : RN) : ExF B g m S i en bg V st w W0 (W.setRow bt (reC r).toArray) bt r := by
 have hl := h.lt; refine ⟨?_, h.bx.set r, ⟨h.md.os, h.md.tape, h.md.output, by simpa using h.md.size, fun k h1 h2 h3 => ?_⟩, fun k h1 h2 => ?_, ?_, h.lt, by simpa using h.sz⟩
 · have := h.pc; unfold PcAt at this ⊢; rw [setRow_other _ _ _ _ (by omega)]; exact this
 · rw [setRow_other _ _ _ _ (by omega)]; exact h.md.block k h1 h2 h3
 · rw [setRow_other _ _ _ _ (by omega)]; exact h.kp k h1 h2
 · have := h.kv; unfold KvAt at this ⊢; rw [setRow_other _ _ _ _ (by omega)]; exact this
theorem TrF.put {W0 W : World} {bt : Nat} {r : RN} {t : Re} (h : TrF W0 W bt r t) (cs : Array Value) : TrF W0 (W.setRow bt cs) bt r t := by
 obtain ⟨tb', tc', h1, h2, h3, h4⟩ := h; exact ⟨tb', tc', h1, by simpa using h2, h3, h4.keep (fun k h5 h6 => setRow_other _ _ _ _ (by omega)) (by simp)⟩
theorem PcAt.setR {w : World} {g : Nat} {S : ByteArray} {i en bg : Nat} {V : CV} (h : PcAt w g S i en bg V) (r : RN) : PcAt (w.setCells g 5 (reC r)) g S i en bg { V with r := r } := by
 have go : ∀ {w : World} {cs : Array Value} {o : Nat} {u : Value}, w.heap[g]? = some (.cells cs 49 (0, 0)) → (w.setCell ⟨g, o, none⟩ u).heap[g]? = some (.cells (cs.setIfInBounds o u) 49 (0, 0)) := fun h => by
   rw [setCell_eq_setRow _ _ _ _ _ _ _ h, setRow_heap _ _ _ _ _ _ h]
 unfold PcAt at h ⊢; simp only [reC, World.setCells]; exact (go (go (go (go (go (go (go (go h)))))))).trans (by simp)
theorem setCells_els (g : Nat) (cs : List Value) (o : Nat) (w : World) : Else g w (w.setCells g o cs) := by
 induction cs generalizing o w with
 | nil => exact Else.refl g w
 | cons c cs ih => rw [World.setCells]; exact ((Else.refl g w).setCell _ _).trans (ih _ _)
theorem PcAt.there {w : World} {g : Nat} {S : ByteArray} {i en bg : Nat} {V : CV} (h : PcAt w g S i en bg V) : w.there g 5 8 := fun j hj => by
 refine ⟨?_, h.free _⟩; rw [cell_of_row w g _ _ _ _ h]; rw [Array.getElem?_eq_getElem (by simp; omega)]; rfl
/-- what a line's reading tells, wherever in the line it stops -/
def LPs (B g m : Nat) (S : ByteArray) (en bg : Nat) (w : World) (x : PR CS) (e : Ending) (w' : World) : Prop :=
 match x with
 | .ok st _ => e = .returned (.tuple #[]) ∧ (∃ j, SAt B g m S j en bg w' st) ∧ Mid B g m w w'
 | .bad e0 j => e = cstopE e0 j ∧ Mid B g m w w'
 | .out => False
theorem LPo.less {B g m : Nat} {S : ByteArray} {en bg : Nat} {w : World} {x : PR CS} {e : Ending} {w' : World} (h : LPo B g m S en bg w x e w') : LPs B g m S en bg w x e w' := by
 unfold LPs
 cases x with
 | ok st j => exact ⟨h.1, ⟨j, h.2.1⟩, h.2.2⟩
 | bad e0 j => exact h
 | out => exact h
theorem LPs.okI {B g m : Nat} {S : ByteArray} {en bg : Nat} {w : World} {x : PR CS} {e : Ending} {w' : World} {st : CS} {j : Nat} (hx : x = .ok st j) (h : e = .returned (.tuple #[]) ∧ (∃ j, SAt B g m S j en bg w' st) ∧ Mid B g m w w') : LPs B g m S en bg w x e w' := by subst hx; exact h
theorem LPs.badI {B g m : Nat} {S : ByteArray} {en bg : Nat} {w : World} {x : PR CS} {e : Ending} {w' : World} {a j : Nat} (hx : x = .bad a j) (h : e = cstopE a j ∧ Mid B g m w w') : LPs B g m S en bg w x e w' := by subst hx; exact h
/-- what was told, as the world stands -/
def OutF (s : List UInt8) (en i : Nat) (W0 W : World) (bt : Nat) (r : RN) (er at' : Int) : Prop :=
 (∃ e0 j : Nat, e0 ≠ 0 ∧ er = e0 ∧ at' = j ∧ i + j ≤ en ∧ splitR s en i = .bad e0 (i + j)) ∨ (er = 0 ∧ ∃ t, splitR s en i = .ok t en ∧ TrF W0 W bt r t)
theorem OutF.put {s : List UInt8} {en i : Nat} {W0 W : World} {bt : Nat} {r : RN} {er at' : Int} (h : OutF s en i W0 W bt r er at') (cs : Array Value) : OutF s en i W0 (W.setRow bt cs) bt r er at' :=
 h.imp id fun ⟨h1, t, h2, h3⟩ => ⟨h1, t, h2, h3.put cs⟩
theorem store_mid_re {o : Oper} {a : Act} {w : World} {K : Act → World → Prop} {Q : Exit → Act → World → Prop} {g : Nat} {r : RN} (ht : w.there g 5 8) (hr : r.v.oneCell' = true) (x y : Operand) (ho : o.op = .store 33 x y)
   (hx : a.eval x = .pointer (some ⟨g, 5, none⟩)) (hy : a.eval y = reV r) (h : K (a.put o.dst undef) (w.setCells g 5 (reC r))) : o.wp Tryd.prog a w K Q :=
 wp_store_mid 33 x y ho g 5 (reC r).toArray hx hy ht (by kernel_rfl) (all_oneCell_toArray (reC_oneAll hr)) h
set_option maxRecDepth 100000 in
set_option maxHeartbeats 4000000 in
theorem cf_expr (B g m : Nat) (S : ByteArray) (i en bg : Nat) (st : CS) (hgB : g < B) (hmg : m ≠ g) (hS : S.size ≤ 65536) (hen : en ≤ S.size) (hi : i ≤ en) (w : World) (H : SAt B g m S i en bg w st) :
   Calls Tryd.prog 25 #[.pointer (some ⟨g, 0, none⟩)] w (LPs B g m S en bg w (if st.split then (.bad 172 bg : PR CS) else (splitR S.data.toList en i).bind fun t j => .ok { st with c := { st.c with re := t }, split := true } j)) := by
 obtain ⟨V, tb, tc, vs, hV, hp, hs⟩ := H; have HV := Lib.hid hV; have HP := Lib.hid hp; have HS := Lib.hid hs; have hBw := hs.sz; clear hV hp hs; have HM := Lib.hid (Mid.refl B g m w); have hsp := HS.out.sp; have c17 := HP.out.c17; have c3 := HP.out.c3; rw [hsp] at c17; clear hsp
 cases hst : st.split with
 | true =>
   rw [hst] at c17; rw [if_pos rfl]; clear hst; go_enter Tryd.func25, Tryd.ntmps25; wkk; have hf := cf_fail (.pointer (some ⟨g, 0, none⟩)) 172 bg w; refine Calls.mono hf ?_; rintro _ w2 ⟨rfl, rfl⟩; exact ⟨rfl, LPs.badI rfl ⟨rfl, HM.out⟩⟩
 | false =>
   rw [hst] at c17; rw [if_neg (by decide)]; obtain ⟨Y, hY⟩ : ∃ Y, ((splitR S.data.toList en i).bind fun t j => (.ok { st with c := { st.c with re := t }, split := true } j : PR CS)) = Y := ⟨_, rfl⟩; rw [hY]; have HY := Lib.hid hY; clear hst c3 hY; go_enter Tryd.func25, Tryd.ntmps25; wkk; have hsl := fun W => slice_str (P := Tryd.prog) (t := 9) Tryd.underlying9 S (i : Int) (en : Int) i en rfl rfl hi hen W
   have hpx := fun W => rx_parseX ⟨((S.data.toList.drop i).take (en - i)).toArray⟩ W
   have hpxe : (⟨((S.data.toList.drop i).take (en - i)).toArray⟩ : ByteArray).data.toList = (S.data.toList.drop i).take (en - i) := by simp
   rw [hpxe] at hpx; have HOut : Hid (∀ (r : RN) (er at' : Int) (B : Nat) (W : World), ParsX ((S.data.toList.drop i).take (en - i)) r er at' B W → r.v.oneCell' = true ∧ ((∃ e0 j : Nat, e0 ≠ 0 ∧ er = e0 ∧ at' = j ∧ i + j ≤ en ∧ splitR S.data.toList en i = .bad e0 (i + j)) ∨ (er = 0 ∧ ∃ t, splitR S.data.toList en i = .ok t en ∧ ∃ p, ReX B p W r t))) := Lib.hid fun r er at' B W h => ex_out h hi
   generalize (S.data.toList.drop i).take (en - i) = s2 at hsl hpx HOut; clear hpxe c17; obtain ⟨C, hC⟩ : ∃ C : World → Prop, C = fun W => PcAt W g S i en bg V := ⟨_, rfl⟩
   have Hmk : Hid (∀ W, PcAt W g S i en bg V → C W) := Lib.hid fun W h1 => by rw [hC]; exact h1
   have Hop : Hid (∀ W, C W → PcAt W g S i en bg V) := Lib.hid fun W h => by rw [hC] at h; exact h
   have q0 : ∀ nq : GW C, nq.1.cell? ⟨g, 0, none⟩ = some (.string S) := fun nq => (Hop.out _ nq.2).c0
   have q1 : ∀ nq : GW C, nq.1.cell? ⟨g, 1, none⟩ = some (.int .i64 (i : Int)) := fun nq => (Hop.out _ nq.2).c1
   have q2 : ∀ nq : GW C, nq.1.cell? ⟨g, 2, none⟩ = some (.int .i64 (en : Int)) := fun nq => (Hop.out _ nq.2).c2
   clear hC; refine wp_region_anyU (by kernel_rfl) C 19 ?_; refine tkU 0 rfl ?_; refine tkU 1 rfl ?_; refine tkU 2 rfl ?_; refine tkU 3 rfl ?_; refine tkU 4 rfl ?_; refine tkU 5 rfl ?_; refine tkU 6 rfl ?_; refine tkU 7 rfl ?_; refine tkU 8 rfl ?_; refine tkU 9 rfl ?_; refine tkU 10 rfl ?_; refine tkU 11 rfl ?_; refine tkU 12 rfl ?_; clear q0 q1 q2 hsl; refine genUv (fun W => PcAt W g S i en bg V ∧ StX B tb tc vs W V st ∧ Mid B g m w W) ⟨HP.out.keep (Below.refl _ _).drew, HS.out.below (Below.refl _ _).drew, HM.out.trans (Mid.below (Below.refl _ _).drew HS.out.sz)⟩ ?_; clear HP HS HM hBw
   rintro W0 ⟨hp, hs, hM⟩; have hB0 := hs.sz; have HS0 := Lib.hid hs; refine wpAnyU_ready (CG.of (Hmk.out _ hp)) (rs := [13, 18]) (by kernel_rfl) (by simp) ?_; refine (AllReadyU.cons rfl (fun K hK => ?_) (AllReadyU.cons rfl (fun K hK => ?_) AllReadyU.nil))
   · go_simp; refine Calls.mono ((hpx W0)) ?_; rintro _ W1 ⟨r, er, at', rfl, hb, hpa⟩; dsimp only; refine hK _ _ ?_; clear hK K; obtain ⟨hone, hout⟩ := HOut.out r er at' _ W1 hpa; have hp1 := hp.keep hb; refine tkP 14 rfl ?_; refine tkP 15 rfl ?_; refine tkP 16 rfl ?_; refine tkP 17 rfl ?_; refine wpAnyU_ready (CG.of (Hmk.out _ hp1)) (rs := [18]) (by kernel_rfl) (by simp) ?_; refine (AllReadyU.cons rfl (fun K hK => ?_) AllReadyU.nil); go_simp; refine hK _ _ ?_; clear hK K; obtain ⟨bt, hbt⟩ : ∃ bt, W1.heap.size = bt := ⟨_, rfl⟩
     have hab : Below W1.heap.size W1 (W1.alloc (.cells (reC reZ).toArray 33)) := (Below.refl _ _).alloc (Nat.le_refl _) _; have hsz := hb.size
     refine genUv (fun W => ExF B g m S i en bg V st w W0 W bt reZ ∧ OutF S.data.toList en i W0 W bt r er at') ⟨⟨hp1.keep hab, by rw [← hbt]; exact ReBox.zero W1, (hM.trans (Mid.below hb hB0)).trans (Mid.below hab (Nat.le_trans hB0 hsz)), fun k _ hk => (hab.block k (by omega)).trans (hb.block k hk), (hs.kv.keep hb).keep hab, by omega, Nat.le_trans hsz hab.size⟩, hout.imp id fun ⟨h1, t, h2, p, h3⟩ => ⟨h1, t, h2, _, _, Nat.le_refl _, hab.size, .inr (by omega), (ReS.of h3).keep (fun k _ hk => hab.block k hk) hab.size⟩⟩ ?_; rw [hbt]; have hY := HY.out
     clear hab hsz hp1 hp hs hM hb hout hpa hbt HOut HY hpx; rintro wy ⟨hx, ho⟩; refine wpAnyU_ready (CG.of (Hmk.out _ hx.pc)) (rs := [19]) (by kernel_rfl) (by simp) ?_; refine (AllReadyU.cons rfl (fun K hK => ?_) AllReadyU.nil); refine step_of rfl (store_box hx.bx r hone _ _ rfl rfl rfl ?_); refine hK _ _ ?_; clear hK K; refine tkP 20 rfl ?_; refine tkP 21 rfl ?_; refine genUv (fun W => ExF B g m S i en bg V st w W0 W bt r ∧ OutF S.data.toList en i W0 W bt r er at') ⟨hx.put hB0 hgB HS0.out.mp r, ho.put _⟩ ?_; clear hx ho Hmk Hop; rintro w5 ⟨hx, ho⟩
     refine wpAnyU_done (by kernel_rfl) (by kernel_rfl) (by go_simp <;> with_reducible rfl) ?_; have c1 := hx.pc.c1; have HXF := Lib.hid hx
     rcases ho with ⟨e0, j, hne, rfl, rfl, hij, hsp⟩ | ⟨rfl, t, hsp, htr⟩
     · rw [hsp] at hY; have HX : Hid (Y = .bad e0 (i + j)) := Lib.hid hY.symm; have hne' : ((e0 : Int) != 0) = true := by rw [bne_iff_ne]; omega
       have hw : IntKind.i64.wrap ((i : Int) + (j : Int)) = ((i + j : Nat) : Int) := by rw [wi64 (by unfold I64; omega)]; omega
       generalize i + j = ij at hw HX; clear hY hsp hij hne hx; wkk; have hf := cf_fail (.pointer (some ⟨g, 0, none⟩)) e0 ij w5; refine Calls.mono hf ?_; rintro _ w2 ⟨rfl, rfl⟩; exact ⟨rfl, LPs.badI HX.out ⟨rfl, HXF.out.md⟩⟩
     · rw [hsp, bindOk] at hY; have HX := Lib.hid hY.symm; have HT := Lib.hid htr; have hpr := Lib.hid (hx.pc.setR r); have f17 := hpr.out.free 17; have c17 := hpr.out.c17; have Hth := Lib.hid hx.pc.there; clear hY hsp htr hx
       repeat' (go_not_at_region 5; first | go_values | go_skip | go_guarded | go_step | go_upon)
       wkka (first | (with_reducible refine load_box HXF.out.bx _ rfl rfl ?_; dsimp only [Act.put]) | (with_reducible refine store_mid_re Hth.out hone _ _ rfl rfl rfl ?_; dsimp only [Act.put])); go_end0; obtain ⟨tb', tc', h1, h2, _, h4⟩ := HT.out; have hE := (setCells_els g (reC r) 5 w5).setCell 17 (.bool true); have hS5 := HS0.out.split (w := w5) (r := r) (t := t) HXF.out.kp h1 h2 HXF.out.sz HXF.out.kv h4
       refine LPs.okI HX.out ⟨rfl, ⟨i, { V with r := r, sp := true }, tb', tc', vs, HV.out, hpr.out.set17 true, hS5.els hE hgB (by show V.mp ≠ g; rw [HV.out]; exact hmg)⟩, HXF.out.md.trans (Mid.els hE (Nat.le_trans hB0 HXF.out.sz))⟩
   · go_simp; refine hK _ _ ?_; clear hK K; obtain ⟨bt, hbt⟩ : ∃ bt, W0.heap.size = bt := ⟨_, rfl⟩; have hab : Below W0.heap.size W0 (W0.alloc (.cells (reC reZ).toArray 33)) := (Below.refl _ _).alloc (Nat.le_refl _) _; refine genUv (fun W => ExF B g m S i en bg V st w W0 W bt reZ ∧ bt < W.heap.size) ⟨⟨hp.keep hab, by rw [← hbt]; exact ReBox.zero W0, hM.trans (Mid.below hab hB0), fun k _ hk => hab.block k hk, hs.kv.keep hab, by omega, hab.size⟩, by rw [← hbt]; simp⟩ ?_; rw [hbt]; have hY := HY.out; clear hab hp hs hM hbt HY; rintro wx ⟨hx, hbw⟩
     refine wpAnyU_ready (CG.of (Hmk.out _ hx.pc)) (rs := [13]) (by kernel_rfl) (by simp) ?_; refine (AllReadyU.cons rfl (fun K hK => ?_) AllReadyU.nil); go_simp; refine Calls.mono ((hpx wx)) ?_; rintro _ W1 ⟨r, er, at', rfl, hb, hpa⟩; dsimp only; refine hK _ _ ?_; clear hK K; obtain ⟨hone, hout⟩ := HOut.out r er at' _ W1 hpa; have hz := hx.sz; have ho : OutF S.data.toList en i W0 W1 bt r er at' := hout.imp id fun ⟨h1, t, h2, p, h3⟩ => ⟨h1, t, h2, _, _, hz, Nat.le_refl _, .inl hbw, ReS.of h3⟩
     have hx : ExF B g m S i en bg V st w W0 W1 bt reZ := ⟨hx.pc.keep hb, hx.bx.keep hb, hx.md.trans (Mid.below hb (Nat.le_trans hB0 hz)), fun k h1 h2 => (hb.block k (by omega)).trans (hx.kp k h1 h2), hx.kv.keep hb, hx.lt, Nat.le_trans hz hb.size⟩; clear hpa hout hb hbw hz HOut hpx; refine tkP 14 rfl ?_; refine tkP 15 rfl ?_; refine tkP 16 rfl ?_; refine tkP 17 rfl ?_; refine wpAnyU_ready (CG.of (Hmk.out _ hx.pc)) (rs := [19]) (by kernel_rfl) (by simp) ?_; refine (AllReadyU.cons rfl (fun K hK => ?_) AllReadyU.nil); refine step_of rfl (store_box hx.bx r hone _ _ rfl rfl rfl ?_)
     refine hK _ _ ?_; clear hK K; refine tkP 20 rfl ?_; refine tkP 21 rfl ?_; refine genUv (fun W => ExF B g m S i en bg V st w W0 W bt r ∧ OutF S.data.toList en i W0 W bt r er at') ⟨hx.put hB0 hgB HS0.out.mp r, ho.put _⟩ ?_; clear hx ho Hmk Hop; rintro w5 ⟨hx, ho⟩; refine wpAnyU_done (by kernel_rfl) (by kernel_rfl) (by go_simp <;> with_reducible rfl) ?_; have c1 := hx.pc.c1; have HXF := Lib.hid hx
     rcases ho with ⟨e0, j, hne, rfl, rfl, hij, hsp⟩ | ⟨rfl, t, hsp, htr⟩
     · rw [hsp] at hY; have HX : Hid (Y = .bad e0 (i + j)) := Lib.hid hY.symm; have hne' : ((e0 : Int) != 0) = true := by rw [bne_iff_ne]; omega
       have hw : IntKind.i64.wrap ((i : Int) + (j : Int)) = ((i + j : Nat) : Int) := by rw [wi64 (by unfold I64; omega)]; omega
       generalize i + j = ij at hw HX; clear hY hsp hij hne hx; wkk; have hf := cf_fail (.pointer (some ⟨g, 0, none⟩)) e0 ij w5; refine Calls.mono hf ?_; rintro _ w2 ⟨rfl, rfl⟩; exact ⟨rfl, LPs.badI HX.out ⟨rfl, HXF.out.md⟩⟩
     · rw [hsp, bindOk] at hY; have HX := Lib.hid hY.symm; have HT := Lib.hid htr; have hpr := Lib.hid (hx.pc.setR r); have f17 := hpr.out.free 17; have c17 := hpr.out.c17; have Hth := Lib.hid hx.pc.there; clear hY hsp htr hx
       repeat' (go_not_at_region 5; first | go_values | go_skip | go_guarded | go_step | go_upon)
       wkka (first | (with_reducible refine load_box HXF.out.bx _ rfl rfl ?_; dsimp only [Act.put]) | (with_reducible refine store_mid_re Hth.out hone _ _ rfl rfl rfl ?_; dsimp only [Act.put])); go_end0; obtain ⟨tb', tc', h1, h2, _, h4⟩ := HT.out; have hE := (setCells_els g (reC r) 5 w5).setCell 17 (.bool true); have hS5 := HS0.out.split (w := w5) (r := r) (t := t) HXF.out.kp h1 h2 HXF.out.sz HXF.out.kv h4
       refine LPs.okI HX.out ⟨rfl, ⟨i, { V with r := r, sp := true }, tb', tc', vs, HV.out, hpr.out.set17 true, hS5.els hE hgB (by show V.mp ≠ g; rw [HV.out]; exact hmg)⟩, HXF.out.md.trans (Mid.els hE (Nat.le_trans hB0 HXF.out.sz))⟩
end Go.Proofs.YtonkenlkigfeoaaDoor
