/- Walk: what Parse defers (it recovers). No conditions. -/
import Derived.Test.YtnbfifmnigeolaaPrsOne
import Derived.Defers
import Derived.Recover
import Derived.Test.YtnbfifmnigeolaaAnyC
namespace Go.Proofs.Ytnbfifmnigeolaa
open Go.RowKit Go.Lib
/-- a variable of one number -/
def IB (w : World) (b : Nat) (ty : TypeId) (n : Int) : Prop := w.heap[b]? = some (.cells #[.int .i64 n] ty (0, 0))
section
variable {w w' : World} {b : Nat} {ty : TypeId} {n : Int}
theorem IB.lt (h : IB w b ty n) : b < w.heap.size := (Array.getElem?_eq_some_iff.1 h).1
theorem IB.keep (h : IB w b ty n) (hb : Below w.heap.size w w') : IB w' b ty n := by unfold IB; rw [hb.block b h.lt]; exact h
theorem IB.els {g : Nat} (h : IB w b ty n) (he : Else g w w') (hne : b ≠ g) : IB w' b ty n := he.row h hne
theorem IB.cell (h : IB w b ty n) : w.cell? ⟨b, 0, none⟩ = some (.int .i64 n) := by rw [cell_of_row w b 0 _ _ _ h]; rfl
theorem IB.free (h : IB w b ty n) (k : Nat) : w.frozen? ⟨b, k, none⟩ = false := frozen_of_row _ _ _ _ _ h
theorem IB.set (h : IB w b ty n) (m : Int) : IB (w.setCell ⟨b, 0, none⟩ (.int .i64 m)) b ty m := by
  unfold IB; rw [setCell_eq_setRow _ _ _ _ _ _ _ h, setRow_heap _ _ _ _ _ _ h]; simp
theorem IB.other {q o : Nat} {u : Value} (h : IB w b ty n) (hq : b ≠ q) : IB (w.setCell ⟨q, o, none⟩ u) b ty n := by
  unfold IB; rw [show (w.setCell ⟨q, o, none⟩ u).heap[b]? = w.heap[b]? from Below.heap_setCell _ _ _ _ (by dsimp only; omega)]; exact h
theorem IB.row {q : Nat} {cs : Array Value} (h : IB w b ty n) (hq : b ≠ q) : IB (w.setRow q cs) b ty n := by unfold IB; rw [setRow_other _ _ _ _ hq]; exact h
theorem IB.new (w : World) (ty : TypeId) : IB (w.alloc (.cells #[.int .i64 0] ty)) w.heap.size ty 0 := Go.heap_alloc_new _ _
end
/-- Parse's three results, each in its variable -/
structure PB (B b2 b3 b4 : Nat) (w0 : World) (r : RN) (er at' : Int) (W : World) : Prop where
  r : ReBox W b2 r
  e : IB W b3 30 er
  a : IB W b4 3 at'
  bel : Below B w0 W
  lt : B ≤ b2 ∧ b2 < b3 ∧ b3 < b4
theorem PB.keep {B b2 b3 b4 : Nat} {w0 W W' : World} {r : RN} {er at' : Int} (h : PB B b2 b3 b4 w0 r er at' W) (hb : Below W.heap.size W W') : PB B b2 b3 b4 w0 r er at' W' :=
  ⟨h.r.keep hb, h.e.keep hb, h.a.keep hb, h.bel.trans (hb.mono (by have := h.r.lt; have := h.lt; omega)), h.lt⟩
section
variable {B b2 b3 b4 : Nat} {w0 W : World} {r : RN} {er at' : Int}
theorem PB.setR (h : PB B b2 b3 b4 w0 r er at' W) (r' : RN) : PB B b2 b3 b4 w0 r' er at' (W.setRow b2 (reC r').toArray) :=
  ⟨h.r.set r', h.e.row (by have := h.lt; omega), h.a.row (by have := h.lt; omega), Below.row h.bel (by have := h.lt; omega) _, h.lt⟩
theorem PB.setE (h : PB B b2 b3 b4 w0 r er at' W) (n : Int) : PB B b2 b3 b4 w0 r n at' (W.setCell ⟨b3, 0, none⟩ (.int .i64 n)) :=
  ⟨h.r.cellOther (by have := h.lt; omega), h.e.set n, h.a.other (by have := h.lt; omega), h.bel.setCell (by dsimp only; have := h.lt; omega) _, h.lt⟩
theorem PB.setA (h : PB B b2 b3 b4 w0 r er at' W) (n : Int) : PB B b2 b3 b4 w0 r er n (W.setCell ⟨b4, 0, none⟩ (.int .i64 n)) :=
  ⟨h.r.cellOther (by have := h.lt; omega), h.e.other (by have := h.lt; omega), h.a.set n, h.bel.setCell (by dsimp only; have := h.lt; omega) _, h.lt⟩
/-- the box of what was thrown -/
def SB (W : World) (b : Nat) (e j : Int) : Prop := W.heap[b]? = some (.cells #[.int .i64 e, .int .i64 j] 36 (0, 0))
theorem SB.c0 {b : Nat} {e j : Int} (h : SB W b e j) : W.cell? ⟨b, 0, none⟩ = some (.int .i64 e) := by rw [cell_of_row W b 0 _ _ _ h]; rfl
theorem SB.c1 {b : Nat} {e j : Int} (h : SB W b e j) : W.cell? ⟨b, 1, none⟩ = some (.int .i64 j) := by rw [cell_of_row W b 1 _ _ _ h]; rfl
theorem SB.row {b q : Nat} {e j : Int} {cs : Array Value} (h : SB W b e j) (hq : b ≠ q) : SB (W.setRow q cs) b e j := by unfold SB; rw [setRow_other _ _ _ _ hq]; exact h
theorem SB.other {b q o : Nat} {e j : Int} {u : Value} (h : SB W b e j) (hq : b ≠ q) : SB (W.setCell ⟨q, o, none⟩ u) b e j := by
  unfold SB; rw [show (W.setCell ⟨q, o, none⟩ u).heap[b]? = W.heap[b]? from Below.heap_setCell _ _ _ _ (by dsimp only; omega)]; exact h
end
theorem wp_region_anyD {P : Program} {id : Nat} {Q : Exit → Act → World → Prop} {a : Act} {w : World} {ops : Array Oper} (hm : P.follows .mixedOrders = true) (C : World → Prop)
    (h : wpAnyC P .any ops (CG C) Q ops.size (Array.replicate ops.size false) a w.drew) : (Code.region id ops true).wp P Q a w :=
  wp_region_any hm (wpAnyC.any _ _ _ _ h)
theorem genCd {P : Program} {md : Region.Mode} {ops : Array Oper} {C : World → Prop} {Q : Exit → Act → World → Prop} {fuel : Nat} {listed : Array Bool} {a : Act} {w : World} (F : World → Prop) (hF : F w) (h : ∀ w', F w' → wpAnyC P md ops C Q fuel listed a w') : wpAnyC P md ops C Q fuel listed a w := h w hF
theorem as_stop (v : Value) (w : World) : (Instr.typeAssert (.iface 36 v) 20 36 false).run Try.prog w = .ok v w := by kernel_rfl
set_option maxRecDepth 100000 in
theorem door_panicking (B b2 b3 b4 : Nat) (w0 : World) (r : RN) (er at' : Int) (e j : Nat) (older : List PanicEntry) (w : World) (h : PB B b2 b3 b4 w0 r er at' w) :
    CallsD Try.prog 7 #[.pointer (some ⟨b2, 0, none⟩), .pointer (some ⟨b3, 0, none⟩), .pointer (some ⟨b4, 0, none⟩)] (.panicking ({ v := .iface 36 (.agg #[.int .i64 (e : Int), .int .i64 (j : Int)]), recovered := false } :: older)) w fun e' u' w' =>
      e' = .returned (.tuple #[]) ∧ u' = .panicking ({ v := .iface 36 (.agg #[.int .i64 (e : Int), .int .i64 (j : Int)]), recovered := true } :: older) ∧ PB B b2 b3 b4 w0 reZ e j w' := by
  refine callsD_of_wpS Try.func7 rfl fun c₀ cs hu => ?_
  apply wpS_seq
  apply wpS_region
  simp [wpOpsS, go_sem, recoverD, hu, Try.ntmps7, Exit.thenS]
  refine wpS_of_wp ?_
  have H := Lib.hid h
  clear h hu
  obtain ⟨V, hV⟩ : ∃ V, V = Value.iface 36 (.agg #[.int .i64 (e : Int), .int .i64 (j : Int)]) := ⟨_, rfl⟩
  have ha : (#[Value.pointer (some ⟨b2, 0, none⟩), .pointer (some ⟨b3, 0, none⟩), .pointer (some ⟨b4, 0, none⟩)] ++ ((Array.replicate 12 undef).setIfInBounds 2 V).setIfInBounds 0 V) = #[Value.pointer (some ⟨b2, 0, none⟩), .pointer (some ⟨b3, 0, none⟩), .pointer (some ⟨b4, 0, none⟩), V, undef, V, undef, undef, undef, undef, undef, undef, undef, undef, undef] := rfl
  rw [hV] at ha
  rw [ha]
  clear ha hV V
  have has := fun v w => as_stop v w
  repeat' (first | go_values | go_skip | go_guarded | go_step | go_upon)
  have hk := (Below.refl w.heap.size w).alloc (Nat.le_refl _) (.cells #[.int .i64 (e : Int), .int .i64 (j : Int)] 36)
  have HP := Lib.hid (H.out.keep hk)
  have HS : Hid (SB (w.alloc (.cells #[.int .i64 (e : Int), .int .i64 (j : Int)] 36)) w.heap.size e j) := Lib.hid (Go.heap_alloc_new _ _)
  have hlt : b4 < w.heap.size ∧ b2 < b3 ∧ b3 < b4 := ⟨H.out.a.lt, H.out.lt.2.1, H.out.lt.2.2⟩
  clear hk H has
  generalize w.alloc (.cells #[.int .i64 (e : Int), .int .i64 (j : Int)] 36) = w5 at HP HS ⊢
  generalize w.heap.size = b5 at HS hlt ⊢
  obtain ⟨C, hC⟩ : ∃ C : World → Prop, C = fun W => SB W b5 e j := ⟨_, rfl⟩
  have Hmk : Hid (∀ W, SB W b5 e j → C W) := Lib.hid (fun W h => by rw [hC]; exact h)
  have hC' : ∀ W, C W → SB W b5 e j := fun W h => by rw [hC] at h; exact h
  have q0 : ∀ nq : GW C, nq.1.cell? ⟨b5, 0, none⟩ = some (.int .i64 (e : Int)) := fun nq => (hC' _ nq.2).c0
  have q1 : ∀ nq : GW C, nq.1.cell? ⟨b5, 1, none⟩ = some (.int .i64 (j : Int)) := fun nq => (hC' _ nq.2).c1
  clear hC hC'
  refine wp_region_anyD (by kernel_rfl) C ?_
  refine wpAnyC_take (i := 0) (v := _) rfl (by kernel_rfl) (by kernel_rfl) (by kernel_rfl) (fun _ _ _ h => h) (Or.inl ⟨by rfl, fun w ⟨nq, hw⟩ => by (subst hw; go_simp <;> with_reducible rfl)⟩) (by go_simp <;> with_reducible rfl) ?_
  refine wpAnyC_take (i := 1) (v := _) rfl (by kernel_rfl) (by kernel_rfl) (by kernel_rfl) (fun _ _ _ h => h) (Or.inl ⟨by rfl, fun w ⟨nq, hw⟩ => by (subst hw; go_simp <;> with_reducible rfl)⟩) (by go_simp <;> with_reducible rfl) ?_
  refine wpAnyC_take (i := 2) (v := _) rfl (by kernel_rfl) (by kernel_rfl) (by kernel_rfl) (fun _ _ _ h => h) (Or.inl ⟨by rfl, fun w ⟨nq, hw⟩ => by (subst hw; go_simp <;> with_reducible rfl)⟩) (by go_simp <;> with_reducible rfl) ?_
  refine wpAnyC_take (i := 3) (v := _) rfl (by kernel_rfl) (by kernel_rfl) (by kernel_rfl) (fun _ _ _ h => h) (Or.inl ⟨by rfl, fun w ⟨nq, hw⟩ => by (subst hw; go_simp <;> with_reducible rfl)⟩) (by go_simp <;> with_reducible rfl) ?_
  refine wpAnyC_take (i := 4) (v := _) rfl (by kernel_rfl) (by kernel_rfl) (by kernel_rfl) (fun _ _ _ h => h) (Or.inl ⟨by rfl, fun w ⟨nq, hw⟩ => by (subst hw; go_simp <;> with_reducible rfl)⟩) (by go_simp <;> with_reducible rfl) ?_
  refine genCd (fun W => PB B b2 b3 b4 w0 r er at' W ∧ SB W b5 e j) ⟨HP.out.keep (Below.refl _ _).drew, HS.out⟩ ?_
  clear q0 q1 HP HS
  intro W0 ⟨hp, hs⟩
  refine wpAnyC_ready (CG.of (Hmk.out _ hs)) (rs := [5]) (by kernel_rfl) (by simp) ?_
  refine (AllReadyC.cons rfl (fun K hK => ?_) AllReadyC.nil)
  refine step_of rfl (store_box hp.r reZ rfl _ _ rfl rfl rfl ?_)
  refine hK _ _ ?_
  clear hK K
  refine genCd (fun W => PB B b2 b3 b4 w0 reZ er at' W ∧ SB W b5 e j) ⟨hp.setR reZ, hs.row (by omega)⟩ ?_
  clear hp hs W0
  intro W0 ⟨hp, hs⟩
  have d1 := hp.e.cell
  have f1 := hp.e.free 0
  refine wpAnyC_ready (CG.of (Hmk.out _ hs)) (rs := [6]) (by kernel_rfl) (by simp) ?_
  refine (AllReadyC.cons rfl (fun K hK => ?_) AllReadyC.nil)
  go_simp
  refine hK _ _ ?_
  clear hK K
  refine genCd (fun W => PB B b2 b3 b4 w0 reZ e at' W ∧ SB W b5 e j) ⟨hp.setE e, hs.other (by omega)⟩ ?_
  clear d1 f1 hp hs W0
  intro W0 ⟨hp, hs⟩
  have d1 := hp.a.cell
  have f1 := hp.a.free 0
  refine wpAnyC_ready (CG.of (Hmk.out _ hs)) (rs := [7]) (by kernel_rfl) (by simp) ?_
  refine (AllReadyC.cons rfl (fun K hK => ?_) AllReadyC.nil)
  go_simp
  refine hK _ _ ?_
  clear hK K
  refine genCd (fun W => PB B b2 b3 b4 w0 reZ e j W ∧ SB W b5 e j) ⟨hp.setA j, hs.other (by omega)⟩ ?_
  clear d1 f1 hp hs W0
  intro W0 ⟨hp, hs⟩
  refine wpAnyC_done (by kernel_rfl) (CG.of (Hmk.out _ hs)) (by go_simp <;> with_reducible rfl) ?_
  have HP := Lib.hid hp
  clear hp hs
  repeat' (first | go_values | go_skip | go_guarded | go_step | go_upon)
  exact ⟨rfl, _, rfl, .tuple #[], results_none rfl _ _ _, rfl, rfl, HP.out⟩
set_option maxRecDepth 100000 in
theorem door_idle (p2 p3 p4 : Value) (w : World) :
    CallsD Try.prog 7 #[p2, p3, p4] .returning w fun e' u' w' => e' = .returned (.tuple #[]) ∧ u' = .returning ∧ w' = w := by
  refine callsD_of_wpS Try.func7 rfl fun c₀ cs hu => ?_
  apply wpS_seq
  apply wpS_region
  simp [wpOpsS, go_sem, recoverD, hu, Try.ntmps7, Exit.thenS]
  refine wpS_of_wp ?_
  have ha : (#[p2, p3, p4] ++ ((Array.replicate 12 undef).setIfInBounds 2 Value.nilIface).setIfInBounds 0 Value.nilIface) = #[p2, p3, p4, Value.nilIface, undef, Value.nilIface, undef, undef, undef, undef, undef, undef, undef, undef, undef] := rfl
  rw [ha]
  clear ha
  repeat' (first | go_values | go_skip | go_guarded | go_step | go_upon)
  refine ⟨rfl, .returning, ?_, .tuple #[], results_none rfl _ _ _, rfl, rfl, rfl⟩
  rw [← hu]
end Go.Proofs.Ytnbfifmnigeolaa
