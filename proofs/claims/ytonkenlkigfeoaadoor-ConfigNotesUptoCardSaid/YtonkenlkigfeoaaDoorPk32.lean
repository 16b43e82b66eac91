/- Walk: what Parse defers (it recovers). No conditions. -/
import Derived.Test.YtonkenlkigfeoaaDoorPk31
import Derived.Defers
import Derived.Recover
import Derived.Test.YtonkenlkigfeoaaDoorPk03
namespace Go.Proofs.YtonkenlkigfeoaaDoor
open Go.RowKit Go.Lib
/-- a variable of one number -/
def IB (w : World) (b : Nat) (ty : TypeId) (n : Int) : Prop := w.heap[b]? = some (.cells #[.int .i64 n] ty (0, 0))
section
variable {w w' : World} {b : Nat} {ty : TypeId} {n : Int}
theorem IB.lt (h : IB w b ty n) : b < w.heap.size := (Array.getElem?_eq_some_iff.1 h).1
theorem IB.keep (h : IB w b ty n) (hb : Below w.heap.size w w') : IB w' b ty n := by unfold IB; rw [hb.block b h.lt]; exact h
theorem IB.els {g : Nat} (h : IB w b ty n) (he : Else g w w') (hne : b ≠ g) : IB w' b ty n := he.row h hne
theorem IB.cell (h : IB w b ty n) : w.cell? ⟨b, 0, none⟩ = some (.int .i64 n) := by rw [cell_of_row w b 0 _ _ _ h]; rfl
theorem IB.free (h : IB w b ty n) (k : Nat) : w.frozen? ⟨b, k, none⟩ = false := frozen_of_row _ _ _ _ _ h
theorem IB.set (h : IB w b ty n) (m : Int) : IB (w.setCell ⟨b, 0, none⟩ (.int .i64 m)) b ty m := by
 unfold IB; rw [setCell_eq_setRow _ _ _ _ _ _ _ h, setRow_heap _ _ _ _ _ _ h]; simp
theorem IB.other {q o : Nat} {u : Value} (h : IB w b ty n) (hq : b ≠ q) : IB (w.setCell ⟨q, o, none⟩ u) b ty n := by
 unfold IB; rw [show (w.setCell ⟨q, o, none⟩ u).heap[b]? = w.heap[b]? from Below.heap_setCell _ _ _ _ (by dsimp only; omega)]; exact h
theorem IB.row {q : Nat} {cs : Array Value} (h : IB w b ty n) (hq : b ≠ q) : IB (w.setRow q cs) b ty n := by unfold IB; rw [setRow_other _ _ _ _ hq]; exact h
theorem IB.new (w : World) (ty : TypeId) : IB (w.alloc (.cells #[.int .i64 0] ty)) w.heap.size ty 0 := Go.heap_alloc_new _ _
end
/-- Parse's three results, each in its variable -/
structure PB (B b2 b3 b4 : Nat) (w0 : World) (r : RN) (er at' : Int) (W : World) : Prop where
 r : ReBox W b2 r
 e : IB W b3 37 er
 a : IB W b4 3 at'
 bel : Below B w0 W
 lt : B ≤ b2 ∧ b2 < b3 ∧ b3 < b4
theorem PB.keep {B b2 b3 b4 : Nat} {w0 W W' : World} {r : RN} {er at' : Int} (h : PB B b2 b3 b4 w0 r er at' W) (hb : Below W.heap.size W W') : PB B b2 b3 b4 w0 r er at' W' :=
 ⟨h.r.keep hb, h.e.keep hb, h.a.keep hb, h.bel.trans (hb.mono (by have := h.r.lt; have := h.lt; omega)), h.lt⟩
section
variable {B b2 b3 b4 : Nat} {w0 W : World} {r : RN} {er at' : Int}
theorem PB.setR (h : PB B b2 b3 b4 w0 r er at' W) (r' : RN) : PB B b2 b3 b4 w0 r' er at' (W.setRow b2 (reC r').toArray) :=
 ⟨h.r.set r', h.e.row (by have := h.lt; omega), h.a.row (by have := h.lt; omega), Below.row h.bel (by have := h.lt; omega) _, h.lt⟩
theorem PB.setE (h : PB B b2 b3 b4 w0 r er at' W) (n : Int) : PB B b2 b3 b4 w0 r n at' (W.setCell ⟨b3, 0, none⟩ (.int .i64 n)) :=
 ⟨h.r.cellOther (by have := h.lt; omega), h.e.set n, h.a.other (by have := h.lt; omega), h.bel.setCell (by dsimp only; have := h.lt; omega) _, h.lt⟩
theorem PB.setA (h : PB B b2 b3 b4 w0 r er at' W) (n : Int) : PB B b2 b3 b4 w0 r er n (W.setCell ⟨b4, 0, none⟩ (.int .i64 n)) :=
 ⟨h.r.cellOther (by have := h.lt; omega), h.e.other (by have := h.lt; omega), h.a.set n, h.bel.setCell (by dsimp only; have := h.lt; omega) _, h.lt⟩
/-- the box of what was thrown -/
def SB (W : World) (b : Nat) (e j : Int) : Prop := W.heap[b]? = some (.cells #[.int .i64 e, .int .i64 j] 98 (0, 0))
theorem SB.c0 {b : Nat} {e j : Int} (h : SB W b e j) : W.cell? ⟨b, 0, none⟩ = some (.int .i64 e) := by rw [cell_of_row W b 0 _ _ _ h]; rfl
theorem SB.c1 {b : Nat} {e j : Int} (h : SB W b e j) : W.cell? ⟨b, 1, none⟩ = some (.int .i64 j) := by rw [cell_of_row W b 1 _ _ _ h]; rfl
theorem SB.row {b q : Nat} {e j : Int} {cs : Array Value} (h : SB W b e j) (hq : b ≠ q) : SB (W.setRow q cs) b e j := by unfold SB; rw [setRow_other _ _ _ _ hq]; exact h
theorem SB.other {b q o : Nat} {e j : Int} {u : Value} (h : SB W b e j) (hq : b ≠ q) : SB (W.setCell ⟨q, o, none⟩ u) b e j := by
 unfold SB; rw [show (W.setCell ⟨q, o, none⟩ u).heap[b]? = W.heap[b]? from Below.heap_setCell _ _ _ _ (by dsimp only; omega)]; exact h
end
theorem wp_region_anyD {P : Program} {id : Nat} {Q : Exit → Act → World → Prop} {a : Act} {w : World} {ops : Array Oper} (hm : P.follows .mixedOrders = true) (C : World → Prop)
   (h : wpAnyC P .any ops (CG C) Q ops.size (Array.replicate ops.size false) a w.drew) : (Code.region id ops true).wp P Q a w :=
 wp_region_any hm (wpAnyC.any _ _ _ _ h)
theorem genCd {P : Program} {md : Region.Mode} {ops : Array Oper} {C : World → Prop} {Q : Exit → Act → World → Prop} {fuel : Nat} {listed : Array Bool} {a : Act} {w : World} (F : World → Prop) (hF : F w) (h : ∀ w', F w' → wpAnyC P md ops C Q fuel listed a w') : wpAnyC P md ops C Q fuel listed a w := h w hF
theorem as_stop (v : Value) (w : World) : (Instr.typeAssert (.iface 98 v) 20 98 false).run Tryd.prog w = .ok v w := by kernel_rfl
set_option maxRecDepth 100000 in
theorem door_panicking (B b2 b3 b4 : Nat) (w0 : World) (r : RN) (er at' : Int) (e j : Nat) (older : List PanicEntry) (w : World) (h : PB B b2 b3 b4 w0 r er at' w) :
   CallsD Tryd.prog 62 #[.pointer (some ⟨b2, 0, none⟩), .pointer (some ⟨b3, 0, none⟩), .pointer (some ⟨b4, 0, none⟩)] (.panicking ({ v := .iface 98 (.agg #[.int .i64 (e : Int), .int .i64 (j : Int)]), recovered := false } :: older)) w fun e' u' w' =>
     e' = .returned (.tuple #[]) ∧ u' = .panicking ({ v := .iface 98 (.agg #[.int .i64 (e : Int), .int .i64 (j : Int)]), recovered := true } :: older) ∧ PB B b2 b3 b4 w0 reZ e j w' := by
 refine callsD_of_wpS Tryd.func62 rfl fun c₀ cs hu => ?_
 apply wpS_seq; apply wpS_region
 simp [wpOpsS, go_sem, recoverD, hu, Tryd.ntmps62, Exit.thenS]
 refine wpS_of_wp ?_; have H := Lib.hid h; clear h hu; obtain ⟨V, hV⟩ : ∃ V, V = Value.iface 98 (.agg #[.int .i64 (e : Int), .int .i64 (j : Int)]) := ⟨_, rfl⟩; have ha : (#[Value.pointer (some ⟨b2, 0, none⟩), .pointer (some ⟨b3, 0, none⟩), .pointer (some ⟨b4, 0, none⟩)] ++ ((Array.replicate 12 undef).setIfInBounds 2 V).setIfInBounds 0 V) = #[Value.pointer (some ⟨b2, 0, none⟩), .pointer (some ⟨b3, 0, none⟩), .pointer (some ⟨b4, 0, none⟩), V, undef, V, undef, undef, undef, undef, undef, undef, undef, undef, undef] := rfl; rw [hV] at ha; rw [ha]; clear ha hV V
 have has := fun v w => as_stop v w
 wkk; have hk := (Below.refl w.heap.size w).alloc (Nat.le_refl _) (.cells #[.int .i64 (e : Int), .int .i64 (j : Int)] 98); have HP := Lib.hid (H.out.keep hk); have HS : Hid (SB (w.alloc (.cells #[.int .i64 (e : Int), .int .i64 (j : Int)] 98)) w.heap.size e j) := Lib.hid (Go.heap_alloc_new _ _); have hlt : b4 < w.heap.size ∧ b2 < b3 ∧ b3 < b4 := ⟨H.out.a.lt, H.out.lt.2.1, H.out.lt.2.2⟩; clear hk H has; generalize w.alloc (.cells #[.int .i64 (e : Int), .int .i64 (j : Int)] 98) = w5 at HP HS ⊢; generalize w.heap.size = b5 at HS hlt ⊢
 obtain ⟨C, hC⟩ : ∃ C : World → Prop, C = fun W => SB W b5 e j := ⟨_, rfl⟩
 have Hmk : Hid (∀ W, SB W b5 e j → C W) := Lib.hid (fun W h => by rw [hC]; exact h); have hC' : ∀ W, C W → SB W b5 e j := fun W h => by rw [hC] at h; exact h
 have q0 : ∀ nq : GW C, nq.1.cell? ⟨b5, 0, none⟩ = some (.int .i64 (e : Int)) := fun nq => (hC' _ nq.2).c0
 have q1 : ∀ nq : GW C, nq.1.cell? ⟨b5, 1, none⟩ = some (.int .i64 (j : Int)) := fun nq => (hC' _ nq.2).c1
 clear hC hC'; refine wp_region_anyD (by kernel_rfl) C ?_; refine tkC 0 rfl ?_; refine tkC 1 rfl ?_; refine tkC 2 rfl ?_; refine tkC 3 rfl ?_; refine tkC 4 rfl ?_; refine genCd (fun W => PB B b2 b3 b4 w0 r er at' W ∧ SB W b5 e j) ⟨HP.out.keep (Below.refl _ _).drew, HS.out⟩ ?_; clear q0 q1 HP HS; intro W0 ⟨hp, hs⟩; refine wpAnyC_ready (CG.of (Hmk.out _ hs)) (rs := [5]) (by kernel_rfl) (by simp) ?_; refine (AllReadyC.cons rfl (fun K hK => ?_) AllReadyC.nil); refine step_of rfl (store_box hp.r reZ rfl _ _ rfl rfl rfl ?_); refine hK _ _ ?_; clear hK K
 refine genCd (fun W => PB B b2 b3 b4 w0 reZ er at' W ∧ SB W b5 e j) ⟨hp.setR reZ, hs.row (by omega)⟩ ?_; clear hp hs W0; intro W0 ⟨hp, hs⟩; have d1 := hp.e.cell; have f1 := hp.e.free 0; refine wpAnyC_ready (CG.of (Hmk.out _ hs)) (rs := [6]) (by kernel_rfl) (by simp) ?_; refine (AllReadyC.cons rfl (fun K hK => ?_) AllReadyC.nil); go_simp; refine hK _ _ ?_; clear hK K; refine genCd (fun W => PB B b2 b3 b4 w0 reZ e at' W ∧ SB W b5 e j) ⟨hp.setE e, hs.other (by omega)⟩ ?_; clear d1 f1 hp hs W0; intro W0 ⟨hp, hs⟩; have d1 := hp.a.cell; have f1 := hp.a.free 0
 refine wpAnyC_ready (CG.of (Hmk.out _ hs)) (rs := [7]) (by kernel_rfl) (by simp) ?_; refine (AllReadyC.cons rfl (fun K hK => ?_) AllReadyC.nil); go_simp; refine hK _ _ ?_; clear hK K; refine genCd (fun W => PB B b2 b3 b4 w0 reZ e j W ∧ SB W b5 e j) ⟨hp.setA j, hs.other (by omega)⟩ ?_; clear d1 f1 hp hs W0; intro W0 ⟨hp, hs⟩; refine wpAnyC_done (by kernel_rfl) (CG.of (Hmk.out _ hs)) (by go_simp <;> with_reducible rfl) ?_; have HP := Lib.hid hp; clear hp hs; wkk; exact ⟨rfl, _, rfl, .tuple #[], results_none rfl _ _ _, rfl, rfl, HP.out⟩
set_option maxRecDepth 100000 in
theorem door_idle (p2 p3 p4 : Value) (w : World) :
   CallsD Tryd.prog 62 #[p2, p3, p4] .returning w fun e' u' w' => e' = .returned (.tuple #[]) ∧ u' = .returning ∧ w' = w := by
 refine callsD_of_wpS Tryd.func62 rfl fun c₀ cs hu => ?_
 apply wpS_seq; apply wpS_region
 simp [wpOpsS, go_sem, recoverD, hu, Tryd.ntmps62, Exit.thenS]
 refine wpS_of_wp ?_; have ha : (#[p2, p3, p4] ++ ((Array.replicate 12 undef).setIfInBounds 2 Value.nilIface).setIfInBounds 0 Value.nilIface) = #[p2, p3, p4, Value.nilIface, undef, Value.nilIface, undef, undef, undef, undef, undef, undef, undef, undef, undef] := rfl; rw [ha]; clear ha; wkk; refine ⟨rfl, .returning, ?_, .tuple #[], results_none rfl _ _ _, rfl, rfl, rfl⟩; rw [← hu]
open Go.RowKit Go.Lib
theorem dep_eq : ∀ {h h' : Nat} {w w' : World} {r r' : RN} {t : Re}, ReAt w h r t → ReAt w' h' r' t → dep h t = dep h' t
 | 0, _, _, _, _, _, _, h, _ => h.elim
 | _ + 1, 0, _, _, _, _, _, _, h => h.elim
 | h + 1, h' + 1, w, w', r, r', .mk k s mn mx kids, hr, hr' => by
   obtain ⟨_, _, _, rs, _, hl, hk⟩ := hr; obtain ⟨_, _, _, rs', _, hl', hk'⟩ := hr'; have e : kids.map (dep h) = kids.map (dep h') := by
     apply List.map_congr_left; intro u hu; obtain ⟨i, hi⟩ := List.getElem?_of_mem hu; have hlt := (List.getElem?_eq_some_iff.1 hi).1; exact dep_eq (hk i _ u (List.getElem?_eq_getElem (by omega)) hi) (hk' i _ u (List.getElem?_eq_getElem (by omega)) hi)
   rw [dep, dep]; show 1 + mxl (kids.map (dep h)) = 1 + mxl (kids.map (dep h')); rw [e]
/-- what Parse tells of a text -/
def ParsP (s : List UInt8) (r : RN) (er at' : Int) (w : World) : Prop :=
 match prsA s with
 | .bad e0 j => er = e0 ∧ at' = j ∧ r = reZ
 | .ok t _ => at' = 0 ∧ ((er = 0 ∧ ∃ h, ReAt w h r t ∧ dep h t ≤ 30) ∨ (er = 2 ∧ r = reZ ∧ ∃ h w0 r0, ReAt w0 h r0 t ∧ 30 < dep h t))
 | .out => False
/-- the same; where the tree's rows lie -/
def ParsX (s : List UInt8) (r : RN) (er at' : Int) (B : Nat) (w : World) : Prop :=
 match prsA s with
 | .bad e0 j => er = e0 ∧ at' = j ∧ r = reZ
 | .ok t _ => at' = 0 ∧ ((er = 0 ∧ ∃ h, ReAt w h r t ∧ dep h t ≤ 30 ∧ ∃ p, ReX B p w r t) ∨ (er = 2 ∧ r = reZ ∧ ∃ h w0 r0, ReAt w0 h r0 t ∧ 30 < dep h t))
 | .out => False
theorem ParsX.less {s : List UInt8} {r : RN} {er at' : Int} {B : Nat} {w : World} (h : ParsX s r er at' B w) : ParsP s r er at' w := by
 unfold ParsX at h; unfold ParsP
 cases hp : prsA s with
 | bad e j => rw [hp] at h; exact h
 | out => rw [hp] at h; exact h
 | ok t j =>
   rw [hp] at h
   rcases h with ⟨h1, ⟨h2, k, h3, h4, _⟩ | h2⟩
   · exact ⟨h1, .inl ⟨h2, k, h3, h4⟩⟩
   · exact ⟨h1, .inr h2⟩
theorem PB.start (w : World) : PB w.heap.size w.heap.size (w.heap.size + 1) (w.heap.size + 1 + 1) w reZ 0 0 (((w.alloc (.cells #[.int .i64 0, .int .u64 0, .int .u64 0, .int .u64 0, .int .u64 0, .int .i64 0, .int .i64 0, .slice none 0 0] 33)).alloc (.cells #[.int .i64 0] 37)).alloc (.cells #[.int .i64 0] 3)) := by
 have k1 := (Below.refl _ w).alloc (Nat.le_refl _) (.cells #[.int .i64 0, .int .u64 0, .int .u64 0, .int .u64 0, .int .u64 0, .int .i64 0, .int .i64 0, .slice none 0 0] 33); have k2 := (Below.refl _ (w.alloc (.cells #[.int .i64 0, .int .u64 0, .int .u64 0, .int .u64 0, .int .u64 0, .int .i64 0, .int .i64 0, .slice none 0 0] 33))).alloc (Nat.le_refl _) (.cells #[.int .i64 0] 37)
 have k3 := (Below.refl _ ((w.alloc (.cells #[.int .i64 0, .int .u64 0, .int .u64 0, .int .u64 0, .int .u64 0, .int .i64 0, .int .i64 0, .slice none 0 0] 33)).alloc (.cells #[.int .i64 0] 37))).alloc (Nat.le_refl _) (.cells #[.int .i64 0] 3); refine ⟨((ReBox.zero w).keep k2).keep k3, ?_, ?_, k1.trans ((k2.trans (k3.mono k2.size)).mono k1.size), by omega⟩
 · have h := IB.new (w.alloc (.cells #[.int .i64 0, .int .u64 0, .int .u64 0, .int .u64 0, .int .u64 0, .int .i64 0, .int .i64 0, .slice none 0 0] 33)) 37; rw [World.size_alloc] at h; exact h.keep k3
 · have h := IB.new ((w.alloc (.cells #[.int .i64 0, .int .u64 0, .int .u64 0, .int .u64 0, .int .u64 0, .int .i64 0, .int .i64 0, .slice none 0 0] 33)).alloc (.cells #[.int .i64 0] 37)) 3; rw [World.size_alloc, World.size_alloc] at h; exact h
theorem mkf (fn : Fn) (first cap : Array Value) (w : World) : (Instr.makeFunc fn first cap).run Tryd.prog w = .ok (.func fn first cap) w := rfl
theorem PB.res {B b2 b3 b4 : Nat} {w0 W : World} {r : RN} {er at' : Int} (h : PB B b2 b3 b4 w0 r er at' W) {fn : Func} {p2 p3 p4 : Tmp} (hf : fn.results = #[.cell p2 33, .cell p3 37, .cell p4 3]) (tmps : Array Value)
   (h2 : tmps.getD p2 undef = .pointer (some ⟨b2, 0, none⟩)) (h3 : tmps.getD p3 undef = .pointer (some ⟨b3, 0, none⟩)) (h4 : tmps.getD p4 undef = .pointer (some ⟨b4, 0, none⟩)) : (results fn tmps).run Tryd.prog W = .ok (.tuple #[reV r, .int .i64 er, .int .i64 at']) W := by
 have h2' : tmps[p2]?.getD undef = .pointer (some ⟨b2, 0, none⟩) := by simpa using h2
 have h3' : tmps[p3]?.getD undef = .pointer (some ⟨b3, 0, none⟩) := by simpa using h3
 have h4' : tmps[p4]?.getD undef = .pointer (some ⟨b4, 0, none⟩) := by simpa using h4
 have e1 := run_loadVar_row W b2 33 33 (reC r).toArray (0, 0) _ h.r Tryd.underlying33 rfl info_re; have c3 := h.e.cell; have c4 := h.a.cell; have e3 : (loadVar 37 ⟨b3, 0, none⟩).run Tryd.prog W = .ok (.int .i64 er) W := by simp [go_sem, c3]
 have e4 : (loadVar 3 ⟨b4, 0, none⟩).run Tryd.prog W = .ok (.int .i64 at') W := by simp [go_sem, c4]
 simp [results, hf, h2', h3', h4', asAddr, e1, e3, e4, reV]
theorem PB.els {B b2 b3 b4 g : Nat} {w0 W W' : World} {r : RN} {er at' : Int} (h : PB B b2 b3 b4 w0 r er at' W) (he : Else g W W') (hg : b4 < g) : PB B b2 b3 b4 w0 r er at' W' :=
 ⟨h.r.els he (by have := h.lt; omega), h.e.els he (by have := h.lt; omega), h.a.els he (by have := h.lt; omega), ⟨he.os.trans h.bel.os, he.tape.trans h.bel.tape, he.output.trans h.bel.output, Nat.le_trans h.bel.size he.size, fun k hk => (he.block k (by have := h.r.lt; have := h.lt; omega) (by have := h.lt; omega)).trans (h.bel.block k hk)⟩, h.lt⟩
theorem ReX.row {B p q : Nat} {W : World} {r : RN} {t : Re} {cs : Array Value} (h : ReX B p W r t) (hq : q < B) : ReX B p (W.setRow q cs) r t := h.keep (fun k hk _ _ => setRow_other _ _ _ _ (by omega)) (by simp)
theorem ReX.cell {B p q o : Nat} {W : World} {r : RN} {t : Re} {u : Value} (h : ReX B p W r t) (hq : q < B) : ReX B p (W.setCell ⟨q, o, none⟩ u) r t := h.keep (fun k hk _ _ => Below.heap_setCell _ _ _ _ (by dsimp only; omega)) (by simp [World.setCell])
set_option maxRecDepth 100000 in
set_option maxHeartbeats 4000000 in
theorem rx_parseX (S : ByteArray) (w : World) :
   Calls Tryd.prog 45 #[.string S] w fun e w' => ∃ r er at', e = .returned (.tuple #[reV r, .int .i64 er, .int .i64 at']) ∧ Below w.heap.size w w' ∧ ParsX S.data.toList r er at' w.heap.size w' := by
 have hmf := mkf; have HP := Lib.hid (PB.start w); obtain ⟨X, hX⟩ : ∃ X, prsA S.data.toList = X := ⟨_, rfl⟩; unfold ParsX; rw [hX]; unfold prsA at hX; rw [ba_len] at hX
 by_cases hl : 512 < S.size
 · rw [if_pos hl] at hX; have hl' : (S.size : Int) > 512 := by omega
   subst hX; clear hl; go_enter_defers Tryd.func45, Tryd.ntmps45
   repeat' (go_not_at_region 1; first | go_values | go_skip | go_guarded | go_step | go_upon)
   generalize hb4 : w.heap.size + 1 + 1 = b4 at HP ⊢; generalize hb3 : w.heap.size + 1 = b3 at HP ⊢; generalize hb2 : w.heap.size = b2 at HP ⊢; refine gen_wd (fun W => PB b2 b2 b3 b4 w reZ 0 0 W) HP.out ?_; clear HP hb4 hb3; rintro w1 hp; have HP := Lib.hid hp; have HZ := Lib.hid hb2; clear hp hb2
   repeat' (go_not_at_region 2; first | go_values | go_skip | go_guarded | go_step | go_upon)
   have HP1 := Lib.hid (HP.out.setR reZ); have c3 := HP1.out.e.cell; have f3 := HP1.out.e.free 0; have HP2 := Lib.hid (HP1.out.setE 2); have c4 := HP2.out.a.cell; have f4 := HP2.out.a.free 0; have HP3 := Lib.hid (HP2.out.setA 0); wkka (first | (refine store_box HP.out.r reZ rfl _ _ rfl rfl rfl ?_; dsimp only [Act.put])); exact ⟨_, HP3.out.res rfl _ rfl rfl rfl, _, _, _, rfl, by rw [HZ.out]; exact HP3.out.bel, rfl, rfl, rfl⟩
 · rw [if_neg hl] at hX; have hl' : ¬ (S.size : Int) > 512 := by omega
   have hS : S.size ≤ 512 := by omega
   have hout := prs_out (s := S.data.toList) 4200 .alt 0 0 (Nat.zero_le _) (by rw [ba_len]; simp only [Tk.need]; omega); have hin := prs_in (s := S.data.toList) 4200 .alt 0 0 (Nat.zero_le _); have hall := fun g => (ps_all g S hS 4200 4200 (Nat.le_refl _)).1 0 0
   clear hl; go_enter_defers Tryd.func45, Tryd.ntmps45
   repeat' (go_not_at_region 1; first | go_values | go_skip | go_guarded | go_step | go_upon)
   generalize hb4 : w.heap.size + 1 + 1 = b4 at HP ⊢; generalize hb3 : w.heap.size + 1 = b3 at HP ⊢; generalize hb2 : w.heap.size = b2 at HP ⊢; refine gen_wd (fun W => PB b2 b2 b3 b4 w reZ 0 0 W) HP.out ?_; clear HP hb4 hb3; rintro w1 hp; have HP := Lib.hid hp; have HZ := Lib.hid hb2; clear hp hb2
   repeat' (go_not_at_region 4; first | go_values | go_skip | go_guarded | go_step | go_upon)
   have hgl : b4 < w1.heap.size := HP.out.a.lt; have HQ : Hid (PsAt (w1.alloc (.cells #[.string S, .int .i64 0, .int .i64 0] 101)) w1.heap.size S 0 0) := Lib.hid (PsAt.new w1 S); have HP := Lib.hid (HP.out.keep ((Below.refl _ w1).alloc (Nat.le_refl _) (.cells #[.string S, .int .i64 0, .int .i64 0] 101))); have hc := hall w1.heap.size _ (Nat.zero_le _) (by omega) HQ.out hout; wkk; clear hall HQ
   cases hY : prs S.data.toList 4200 .alt 0 0 with
   | out => exact absurd hY hout
   | bad e0 j =>
     rw [hY] at hc hX; subst hX; refine Calls.mono hc ?_; rintro _ wy ⟨rfl, he⟩; have HP2 := HP.out.els he hgl; refine leaves_cons (f := 62) (args := #[.pointer (some ⟨b2, 0, none⟩), .pointer (some ⟨b3, 0, none⟩), .pointer (some ⟨b4, 0, none⟩)]) (by simp) (by simp [go_sem]) ?_; refine (door_panicking b2 b2 b3 b4 w reZ 0 0 e0 j [] wy HP2).mono ?_; rintro e u' w'' ⟨rfl, rfl, hp⟩; exact ⟨_, hp.res rfl _ rfl rfl rfl, _, _, _, rfl, by rw [HZ.out]; exact hp.bel, rfl, rfl, rfl⟩
   | ok t j =>
     rw [hY] at hc hX hin; dsimp only at hX; have hjS := hin.2; rw [ba_len] at hjS; clear hout hin hY; refine Calls.mono (hc) ?_; rintro _ w2 ⟨⟨r, rfl, hx⟩, hp, he⟩; dsimp only; have HP2 := Lib.hid (HP.out.els he hgl); have hone := hx.one; have hgz : b4 < w1.heap.size ∧ b2 < w1.heap.size ∧ b3 < w1.heap.size ∧ b2 < b3 ∧ b3 < b4 := by have := HP.out.lt; omega
     have HXr := Lib.hid ((hx.mono (B' := w1.heap.size) (by simp)).row (q := b2) (cs := (reC r).toArray) hgz.2.1); have HS := Lib.hid (hp.row (q := b2) (cs := (reC r).toArray) (by omega)); have HP3 := Lib.hid (HP2.out.setR r); clear hc hx hp he HP; have c0 := HS.out.c0; have c1 := HS.out.c1
     by_cases hjn : j < S.size
     · rw [if_pos hjn] at hX; subst hX; have hjn' : (j : Int) < S.size := by omega
       wkka (first | (refine store_box HP2.out.r r hone _ _ rfl rfl rfl ?_; dsimp only [Act.put])); have hf := ps_fail w1.heap.size S j 0 _ HS.out; refine Calls.mono hf ?_; rintro _ wy ⟨rfl, rfl⟩; refine leaves_cons (f := 62) (args := #[.pointer (some ⟨b2, 0, none⟩), .pointer (some ⟨b3, 0, none⟩), .pointer (some ⟨b4, 0, none⟩)]) (by simp) (by simp [go_sem]) ?_; refine (door_panicking b2 b2 b3 b4 w r 0 0 60 j [] _ HP3.out).mono ?_; rintro e u' w'' ⟨rfl, rfl, hp⟩; exact ⟨_, hp.res rfl _ rfl rfl rfl, _, _, _, rfl, by rw [HZ.out]; exact hp.bel, rfl, rfl, rfl⟩
     · rw [if_neg hjn] at hX; subst hX; have hjn' : ¬ (j : Int) < S.size := by omega
       obtain ⟨n, hn⟩ := HXr.out.at'; have hdeep := regex_deep n r t 30 _ (by omega) hn; have HP2b := HP2; wkka (first | (refine store_box HP2.out.r r hone _ _ rfl rfl rfl ?_; dsimp only [Act.put]) | (with_reducible refine load_box HP3.out.r _ rfl rfl ?_; dsimp only [Act.put])); refine Calls.mono (hdeep) ?_; rintro _ w4 ⟨rfl, hb4⟩; dsimp only; have HP := Lib.hid (HP3.out.keep hb4); have Hn := Lib.hid (hn.keep hb4); have HXr := Lib.hid (HXr.out.keepB hb4 (Nat.le_refl _)); clear hdeep hb4 HP2 HP2b HP3 c0 c1 HS hn
       by_cases hdp : 30 < dep n t
       · have hdb : decide (30 < dep n t) = true := decide_eq_true hdp; have HP1 := Lib.hid (HP.out.setR reZ); have c3 := HP1.out.e.cell; have f3 := HP1.out.e.free 0; have HP2 := Lib.hid (HP1.out.setE 2); have c4 := HP2.out.a.cell; have f4 := HP2.out.a.free 0; have HP3 := Lib.hid (HP2.out.setA 0); wkka (first | (refine store_box HP.out.r reZ rfl _ _ rfl rfl rfl ?_; dsimp only [Act.put])); refine leaves_cons (f := 62) (args := #[.pointer (some ⟨b2, 0, none⟩), .pointer (some ⟨b3, 0, none⟩), .pointer (some ⟨b4, 0, none⟩)]) (by simp) (by simp [go_sem]) ?_
         refine (door_idle _ _ _ _).mono ?_; rintro e u' w'' ⟨rfl, rfl, rfl⟩; exact ⟨_, HP3.out.res rfl _ rfl rfl rfl, _, _, _, rfl, by rw [HZ.out]; exact HP3.out.bel, rfl, .inr ⟨rfl, rfl, n, _, _, Hn.out, hdp⟩⟩
       · have hdb : decide (30 < dep n t) = false := decide_eq_false hdp; have HP1 := Lib.hid (HP.out.setR r); have c3 := HP1.out.e.cell; have f3 := HP1.out.e.free 0; have HP2 := Lib.hid (HP1.out.setE 0); have c4 := HP2.out.a.cell; have f4 := HP2.out.a.free 0; have HP3 := Lib.hid (HP2.out.setA 0); have HX3 := Lib.hid (((HXr.out.row (q := b2) (cs := (reC r).toArray) hgz.2.1).cell (q := b3) (o := 0) (u := .int .i64 0) hgz.2.2.1).cell (q := b4) (o := 0) (u := .int .i64 0) hgz.1)
         wkka (first | (with_reducible refine load_box HP.out.r _ rfl rfl ?_; dsimp only [Act.put]) | (refine store_box HP.out.r r hone _ _ rfl rfl rfl ?_; dsimp only [Act.put])); refine leaves_cons (f := 62) (args := #[.pointer (some ⟨b2, 0, none⟩), .pointer (some ⟨b3, 0, none⟩), .pointer (some ⟨b4, 0, none⟩)]) (by simp) (by simp [go_sem]) ?_; refine (door_idle _ _ _ _).mono ?_; rintro e u' w'' ⟨rfl, rfl, rfl⟩; obtain ⟨m, hm⟩ := HX3.out.at'
         exact ⟨_, HP3.out.res rfl _ rfl rfl rfl, _, _, _, rfl, by rw [HZ.out]; exact HP3.out.bel, rfl, .inl ⟨rfl, m, hm, by rw [dep_eq hm Hn.out]; omega, _, HX3.out.mono (by rw [HZ.out]; omega)⟩⟩
end Go.Proofs.YtonkenlkigfeoaaDoor
