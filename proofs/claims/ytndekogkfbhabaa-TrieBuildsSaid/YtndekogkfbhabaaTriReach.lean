/- Walk: the maker's arrays are made longer (reach). Conditions: the maker lies so; lengths. -/
import Derived.Test.YtndekogkfbhabaaTriMem
import Derived.Test.YtndekogkfbhabaaTriLaw
import Derived.Test.YtndekogkfbhabaaTrieFind
import Derived.Test.YtndekogkfbhabaaAnyC
import Derived.Test.YtndekogkfbhabaaAnyP
import Derived.Deep.LoopGhost
import Derived.Deep.Cut
namespace Go.Proofs.Ytndekogkfbhabaa
open Go.RowKit
theorem grow_snoc (l : List Int) (j : Nat) (v : Int) (h : l.length ≤ j) : growF l (j + 1) v = growF l j v ++ [v] := by
  unfold growF
  rw [show j + 1 - l.length = (j - l.length) + 1 by omega, List.replicate_succ', List.append_assoc]
theorem grow_self (l : List Int) (j : Nat) (v : Int) (h : j ≤ l.length) : growF l j v = l := by
  unfold growF
  rw [Nat.sub_eq_zero_of_le h]; simp
/-- the rows made so long -/
def TM.grow (M : TM) (n : Nat) : TM := ⟨growF M.b n 0, growF M.c n (-1), growF M.w n (-1), M.free⟩
theorem info_int : (Try.prog.info? 3).map (fun i => (i.zero, i.size, i.bytes)) = some (some (.int .i64 0), 1, 8) := by kernel_rfl
/-- while the three rows grow: the box is as it was, some one-cell blocks are laid -/
structure RG (B g s0 n : Nat) (wr : World) (v v' : MV) (lb lc lw : List Int) (o8 o15 o22 : Option Nat) (W : World) : Prop where
  box : MkB W g v n
  row : MkR B W lb lc lw v'
  st : MSt B g v v' wr W
  sz : s0 ≤ W.heap.size
  bs : B ≤ s0
  lt : ∀ q, Tch g v q → q < s0
  one8 : ∀ a, o8 = some a → s0 ≤ a ∧ W.heap[a]? = some (.cells #[.int .i64 0] 3 (0, 0))
  one15 : ∀ a, o15 = some a → s0 ≤ a ∧ W.heap[a]? = some (.cells #[.int .i64 (-1)] 3 (0, 0))
  one22 : ∀ a, o22 = some a → s0 ≤ a ∧ W.heap[a]? = some (.cells #[.int .i64 (-1)] 3 (0, 0))
section
variable {B g s0 n : Nat} {wr W W' : World} {v v' : MV} {lb lc lw : List Int} {o8 o15 o22 : Option Nat}
theorem RG.alloc (h : RG B g s0 n wr v v' lb lc lw o8 o15 o22 W) (o : Obj) : RG B g s0 n wr v v' lb lc lw o8 o15 o22 (W.alloc o) := by
  have hb : Below W.heap.size W (W.alloc o) := (Below.refl _ _).alloc (Nat.le_refl _) _
  have F : ∀ {a : Nat} {c : Obj}, W.heap[a]? = some c → (W.alloc o).heap[a]? = some c := fun {a c} h => by
    rw [hb.block a (Array.getElem?_eq_some_iff.1 h).1]; exact h
  refine ⟨h.box.keep hb, h.row.keep hb, h.st.trans (MSt.of_below hb (Nat.le_trans h.bs h.sz)), by have := h.sz; simp; omega, h.bs, h.lt, fun a e => ⟨(h.one8 a e).1, F (h.one8 a e).2⟩, fun a e => ⟨(h.one15 a e).1, F (h.one15 a e).2⟩, fun a e => ⟨(h.one22 a e).1, F (h.one22 a e).2⟩⟩
theorem RG.alloc8 (h : RG B g s0 n wr v v' lb lc lw o8 o15 o22 W) : RG B g s0 n wr v v' lb lc lw (some W.heap.size) o15 o22 (W.alloc (.cells #[.int .i64 0] 3)) := by
  have k := h.alloc (.cells #[.int .i64 0] 3)
  refine ⟨k.box, k.row, k.st, k.sz, k.bs, k.lt, fun a e => ?_, k.one15, k.one22⟩
  obtain rfl := Option.some.inj e
  exact ⟨h.sz, Go.heap_alloc_new W _⟩
theorem RG.alloc15 (h : RG B g s0 n wr v v' lb lc lw o8 o15 o22 W) : RG B g s0 n wr v v' lb lc lw o8 (some W.heap.size) o22 (W.alloc (.cells #[.int .i64 (-1)] 3)) := by
  have k := h.alloc (.cells #[.int .i64 (-1)] 3)
  refine ⟨k.box, k.row, k.st, k.sz, k.bs, k.lt, k.one8, fun a e => ?_, k.one22⟩
  obtain rfl := Option.some.inj e
  exact ⟨h.sz, Go.heap_alloc_new W _⟩
theorem RG.alloc22 (h : RG B g s0 n wr v v' lb lc lw o8 o15 o22 W) : RG B g s0 n wr v v' lb lc lw o8 o15 (some W.heap.size) (W.alloc (.cells #[.int .i64 (-1)] 3)) := by
  have k := h.alloc (.cells #[.int .i64 (-1)] 3)
  refine ⟨k.box, k.row, k.st, k.sz, k.bs, k.lt, k.one8, k.one15, fun a e => ?_⟩
  obtain rfl := Option.some.inj e
  exact ⟨h.sz, Go.heap_alloc_new W _⟩
theorem RG.grow (h : RG B g s0 n wr v v' lb lc lw o8 o15 o22 W) {x : Value} (hg : W.grownBy W' x.ownBlock) (hx : ∀ q, x.ownBlock = some q → Tch g v q) (hn : x.ownBlock ≠ some g) {v2 : MV} {l1 l2 l3 : List Int} (hr : MkR B W' l1 l2 l3 v2) (hs : MSt B g v' v2 W W') :
    RG B g s0 n wr v v2 l1 l2 l3 o8 o15 o22 W' := by
  have F : ∀ {a : Nat} {c : Obj}, s0 ≤ a → W.heap[a]? = some c → W'.heap[a]? = some c := fun {a c} ha h1 => by
    rw [hg.block a (Array.getElem?_eq_some_iff.1 h1).1 fun e => ?_]
    · exact h1
    · have := h.lt a (hx a e.symm)
      omega
  refine ⟨h.box.grown hg hn, hr, h.st.trans hs, Nat.le_trans h.sz hg.size, h.bs, h.lt, fun a e => ⟨(h.one8 a e).1, F (h.one8 a e).1 (h.one8 a e).2⟩, fun a e => ⟨(h.one15 a e).1, F (h.one15 a e).1 (h.one15 a e).2⟩, fun a e => ⟨(h.one22 a e).1, F (h.one22 a e).1 (h.one22 a e).2⟩⟩
theorem RG.app9 (h : RG B g s0 n wr v v' lb lc lw o8 o15 o22 W) (he : v'.b = v.b) {x : Value} {l : List Int} (ho : OwnI B 3 .i64 W' x l) (hg : W.grownBy W' v'.b.ownBlock) (hw : WhereD W v'.b x) :
    RG B g s0 n wr v ⟨x, v'.c, v'.w⟩ l lc lw o8 o15 o22 W' := by
  obtain ⟨h1, h2⟩ := h.row.appB (g := g) ho hg hw (Nat.le_trans h.bs h.sz)
  exact h.grow hg (fun q hq => .inr (.inl (by rw [← he]; exact hq))) (h.row.ne_box h.box).1 h1 h2
theorem RG.app16 (h : RG B g s0 n wr v v' lb lc lw o8 o15 o22 W) (he : v'.c = v.c) {x : Value} {l : List Int} (ho : OwnI B 3 .i64 W' x l) (hg : W.grownBy W' v'.c.ownBlock) (hw : WhereD W v'.c x) :
    RG B g s0 n wr v ⟨v'.b, x, v'.w⟩ lb l lw o8 o15 o22 W' := by
  obtain ⟨h1, h2⟩ := h.row.appC (g := g) ho hg hw (Nat.le_trans h.bs h.sz)
  exact h.grow hg (fun q hq => .inr (.inr (.inl (by rw [← he]; exact hq)))) (h.row.ne_box h.box).2.1 h1 h2
theorem RG.app23 (h : RG B g s0 n wr v v' lb lc lw o8 o15 o22 W) (he : v'.w = v.w) {x : Value} {l : List Int} (ho : OwnI B 3 .i64 W' x l) (hg : W.grownBy W' v'.w.ownBlock) (hw : WhereD W v'.w x) :
    RG B g s0 n wr v ⟨v'.b, v'.c, x⟩ lb lc l o8 o15 o22 W' := by
  obtain ⟨h1, h2⟩ := h.row.appW (g := g) ho hg hw (Nat.le_trans h.bs h.sz)
  exact h.grow hg (fun q hq => .inr (.inr (.inr (by rw [← he]; exact hq)))) (h.row.ne_box h.box).2.2 h1 h2
theorem one_row {a : Nat} {x : Int} (h : W.heap[a]? = some (.cells #[.int .i64 x] 3 (0, 0))) : RowOf (kC .i64) 1 W (.slice (some ⟨a, 0, none⟩) 1 1) [x] :=
  ⟨_, _, rfl, Nat.le_refl _, by decide, rfl, .inr ⟨_, _, rfl, (Array.getElem?_eq_some_iff.1 h).1, fun i hi => by
    rw [cell_of_row W a _ _ _ _ h]
    obtain rfl : i = 0 := by simp at hi; omega
    rfl⟩⟩
end
/-- the rows have grown; the box gets them, one by one -/
structure R2 (B g n : Nat) (wr : World) (v u v' : MV) (lb lc lw : List Int) (W : World) : Prop where
  box : MkB W g u n
  row : MkR B W lb lc lw v'
  st : MSt B g v v' wr W
  gB : B ≤ g
section
variable {B g s0 n : Nat} {wr W : World} {v v' u : MV} {lb lc lw : List Int} {o8 o15 o22 : Option Nat}
theorem RG.st0 (h : RG B g s0 n wr v v' lb lc lw o8 o15 o22 W) (hB : B ≤ g) : R2 B g n wr v v v' lb lc lw W := ⟨h.box, h.row, h.st, hB⟩
theorem R2.st1 (h : R2 B g n wr v u v' lb lc lw W) : R2 B g n wr v ⟨v'.b, u.c, u.w⟩ v' lb lc lw (W.setCell ⟨g, 0, none⟩ v'.b) :=
  ⟨h.box.set 0 _ rfl, h.row.other (h.row.ne_box h.box), h.st.trans (MSt.cell (.inl rfl) h.gB), h.gB⟩
theorem R2.st2 (h : R2 B g n wr v u v' lb lc lw W) : R2 B g n wr v ⟨u.b, v'.c, u.w⟩ v' lb lc lw (W.setCell ⟨g, 1, none⟩ v'.c) :=
  ⟨h.box.set 1 _ rfl, h.row.other (h.row.ne_box h.box), h.st.trans (MSt.cell (.inl rfl) h.gB), h.gB⟩
theorem R2.st3 (h : R2 B g n wr v u v' lb lc lw W) : R2 B g n wr v ⟨u.b, u.c, v'.w⟩ v' lb lc lw (W.setCell ⟨g, 2, none⟩ v'.w) :=
  ⟨h.box.set 2 _ rfl, h.row.other (h.row.ne_box h.box), h.st.trans (MSt.cell (.inl rfl) h.gB), h.gB⟩
end
set_option maxRecDepth 100000 in
set_option maxHeartbeats 4000000 in
theorem mk_reach (B g N : Nat) (M : TM) (v : MV) (w : World) (hM : MkAt B g w M v) (h1 : M.b.length = M.c.length) (h2 : M.w.length = M.c.length) (hN : N ≤ 1000000000) (hL : M.c.length ≤ 1000000000) :
    Calls Try.prog 15 #[.pointer (some ⟨g, 0, none⟩), .int .i64 N] w fun e w' => ∃ v', (∃ u, e = .returned u) ∧ MkAt B g w' (M.grow N) v' ∧ MSt B g v v' w w' := by
  obtain ⟨L, hLe⟩ : ∃ L, L = M.c.length := ⟨_, rfl⟩
  rw [← hLe] at h1 h2 hL
  have HL := Lib.hid hLe
  have HM := Lib.hid hM
  have H1 := Lib.hid h1
  have H2 := Lib.hid h2
  clear hLe hM h1 h2
  go_enter Try.func15, Try.ntmps15
  repeat' (first | go_values | go_skip | go_guarded | go_step | go_upon)
  go_loopg [] (max L N - L) (fun gk wr => ∃ (j : Nat) (u : MV), L ≤ j ∧ j + gk = max L N ∧ Hid (MkAt B g wr (M.grow j) u) ∧ Hid (MSt B g v u w wr))
  case atStart => exact ⟨L, v, by omega, by omega, Lib.hid (by
    have := HM.out
    unfold TM.grow
    rw [grow_self _ _ _ (by rw [H1.out]; exact Nat.le_refl _), grow_self _ _ _ (by rw [← HL.out]; exact Nat.le_refl _), grow_self _ _ _ (by rw [H2.out]; exact Nat.le_refl _)]
    exact this), Lib.hid (MSt.refl _ _ _ _)⟩
  case round =>
    obtain ⟨j, u, hj, hjk, HA, HS⟩ := hrel
    obtain ⟨vb, vc, vw⟩ := u
    have l1 : (growF M.b j 0).length = j := by rw [len_grow, H1.out]; omega
    have l2 : (growF M.c j (-1)).length = j := by rw [len_grow, ← HL.out]; omega
    have l3 : (growF M.w j (-1)).length = j := by rw [len_grow, H2.out]; omega
    have Lob := Lib.hid l1
    have Loc := Lib.hid l2
    have Low := Lib.hid l3
    obtain ⟨ab, cb, eb⟩ := HA.out.row.ob.form
    obtain ⟨ac, cc, ec⟩ := HA.out.row.oc.form
    obtain ⟨aw, cw, ew⟩ := HA.out.row.ow.form
    dsimp only [TM.grow] at eb ec ew
    rw [l1] at eb
    rw [l2] at ec
    rw [l3] at ew
    subst eb ec ew
    have HC := HA.out.box.cells
    obtain ⟨c0, c1, c2, c3, _⟩ := HC
    dsimp only at c0 c1 c2
    clear l1 l2 l3 c1 c2 c3
    by_cases hlt : j < N
    · have hgk : 0 < gk := by omega
      have hltI : (j : Int) < N := by omega
      obtain ⟨nf, hnf⟩ : ∃ nf, nf = M.free := ⟨_, rfl⟩
      have Hnf := Lib.hid hnf
      clear hnf
      repeat' (go_not_at_region 1; first | go_values | go_skip | go_guarded | go_step | go_upon)
      have HB : MkB wr g ⟨.slice ab j cb, .slice ac j cc, .slice aw j cw⟩ nf := by rw [Hnf.out]; exact HA.out.box
      have hszB := HA.out.size
      obtain ⟨s0, hs0⟩ : ∃ s0, s0 = wr.heap.size := ⟨_, rfl⟩
      obtain ⟨vb, hvb⟩ : ∃ vb, vb = Value.slice ab j cb := ⟨_, rfl⟩
      obtain ⟨vc, hvc⟩ : ∃ vc, vc = Value.slice ac j cc := ⟨_, rfl⟩
      obtain ⟨vw, hvw⟩ : ∃ vw, vw = Value.slice aw j cw := ⟨_, rfl⟩
      rw [← hvb, ← hvc, ← hvw] at HB HA HS
      have Hlt : ∀ q, Tch g ⟨vb, vc, vw⟩ q → q < wr.heap.size := fun q hq => by
        rcases hq with rfl | hq | hq | hq
        · exact HB.lt
        · exact (OwnC.lt HA.out.row.ob q hq).2
        · exact (OwnC.lt HA.out.row.oc q hq).2
        · exact (OwnC.lt HA.out.row.ow q hq).2
      have H : RG B g s0 nf wr ⟨vb, vc, vw⟩ ⟨vb, vc, vw⟩ (growF M.b j 0) (growF M.c j (-1)) (growF M.w j (-1)) none none none wr.drew :=
        ⟨HB, HA.out.row.keep (Below.refl _ _).drew, MSt.of_below (Below.refl _ _).drew hszB, by rw [hs0]; exact Nat.le_refl _, by rw [hs0]; exact hszB, by rw [hs0]; exact Hlt, fun a e => by (cases e), fun a e => by (cases e), fun a e => by (cases e)⟩
      obtain ⟨C, hC⟩ : ∃ C : World → Prop, C = fun W => MkB W g ⟨vb, vc, vw⟩ nf := ⟨_, rfl⟩
      have Hmk : Hid (∀ W, MkB W g ⟨vb, vc, vw⟩ nf → C W) := Lib.hid fun W h => by rw [hC]; exact h
      have Hop : Hid (∀ W, C W → MkB W g ⟨vb, vc, vw⟩ nf) := Lib.hid fun W h => by rw [hC] at h; exact h
      have q0 : ∀ nq : GW C, nq.1.cell? ⟨g, 0, none⟩ = some vb := fun nq => (Hop.out _ nq.2).cells.1
      have q1 : ∀ nq : GW C, nq.1.cell? ⟨g, 1, none⟩ = some vc := fun nq => (Hop.out _ nq.2).cells.2.1
      have q2 : ∀ nq : GW C, nq.1.cell? ⟨g, 2, none⟩ = some vw := fun nq => (Hop.out _ nq.2).cells.2.2.1
      have Hvb := Lib.hid hvb
      have Hvc := Lib.hid hvc
      have Hvw := Lib.hid hvw
      clear hC hs0 hvb hvc hvw HB Hlt c0
      refine wp_region_anyU (by kernel_rfl) C 27 ?_
      refine wpAnyU_takeP (i := 0) (v := _) rfl (by decide) (by kernel_rfl) (by kernel_rfl) (by kernel_rfl) (fun _ _ _ h => h) (Or.inl ⟨by rfl, fun w _ => by (go_simp; first | exact ⟨rfl, rfl⟩ | rfl)⟩) (by go_simp <;> with_reducible rfl) ?_
      refine wpAnyU_takeP (i := 1) (v := _) rfl (by decide) (by kernel_rfl) (by kernel_rfl) (by kernel_rfl) (fun _ _ _ h => h) (Or.inl ⟨by rfl, fun w _ => by (go_simp; first | exact ⟨rfl, rfl⟩ | rfl)⟩) (by go_simp <;> with_reducible rfl) ?_
      refine wpAnyU_takeP (i := 2) (v := _) rfl (by decide) (by kernel_rfl) (by kernel_rfl) (by kernel_rfl) (fun _ _ _ h => h) (Or.inl ⟨by rfl, fun w _ => by (go_simp; first | exact ⟨rfl, rfl⟩ | rfl)⟩) (by go_simp <;> with_reducible rfl) ?_
      refine wpAnyU_takeP (i := 3) (v := _) rfl (by decide) (by kernel_rfl) (by kernel_rfl) (by kernel_rfl) (fun _ _ _ h => h) (Or.inl ⟨by rfl, fun w _ => by (go_simp; first | exact ⟨rfl, rfl⟩ | rfl)⟩) (by go_simp <;> with_reducible rfl) ?_
      refine wpAnyU_takeP (i := 4) (v := _) rfl (by decide) (by kernel_rfl) (by kernel_rfl) (by kernel_rfl) (fun _ _ _ h => h) (Or.inl ⟨by rfl, fun w _ => by (go_simp; first | exact ⟨rfl, rfl⟩ | rfl)⟩) (by go_simp <;> with_reducible rfl) ?_
      refine wpAnyU_takeP (i := 5) (v := _) rfl (by decide) (by kernel_rfl) (by kernel_rfl) (by kernel_rfl) (fun _ _ _ h => h) (Or.inl ⟨by rfl, fun w _ => by (go_simp; first | exact ⟨rfl, rfl⟩ | rfl)⟩) (by go_simp <;> with_reducible rfl) ?_
      refine wpAnyU_takeP (i := 6) (v := _) rfl (by decide) (by kernel_rfl) (by kernel_rfl) (by kernel_rfl) (fun _ _ _ h => h) (Or.inl ⟨by rfl, fun w _ => by (go_simp; first | exact ⟨rfl, rfl⟩ | rfl)⟩) (by go_simp <;> with_reducible rfl) ?_
      refine wpAnyU_take (i := 7) (v := _) rfl (by kernel_rfl) (by kernel_rfl) (by kernel_rfl) (by kernel_rfl) (by kernel_rfl) (fun _ _ _ h => h) (Or.inl ⟨by rfl, fun w ⟨nq, hw⟩ => by (subst hw; go_simp; first | exact ⟨rfl, rfl⟩ | rfl)⟩) (by go_simp <;> with_reducible rfl) ?_
      refine wpAnyU_takeP (i := 10) (v := _) rfl (by decide) (by kernel_rfl) (by kernel_rfl) (by kernel_rfl) (fun _ _ _ h => h) (Or.inl ⟨by rfl, fun w _ => by (go_simp; first | exact ⟨rfl, rfl⟩ | rfl)⟩) (by go_simp <;> with_reducible rfl) ?_
      refine wpAnyU_takeP (i := 11) (v := _) rfl (by decide) (by kernel_rfl) (by kernel_rfl) (by kernel_rfl) (fun _ _ _ h => h) (Or.inl ⟨by rfl, fun w _ => by (go_simp; first | exact ⟨rfl, rfl⟩ | rfl)⟩) (by go_simp <;> with_reducible rfl) ?_
      refine wpAnyU_takeP (i := 12) (v := _) rfl (by decide) (by kernel_rfl) (by kernel_rfl) (by kernel_rfl) (fun _ _ _ h => h) (Or.inl ⟨by rfl, fun w _ => by (go_simp; first | exact ⟨rfl, rfl⟩ | rfl)⟩) (by go_simp <;> with_reducible rfl) ?_
      refine wpAnyU_takeP (i := 13) (v := _) rfl (by decide) (by kernel_rfl) (by kernel_rfl) (by kernel_rfl) (fun _ _ _ h => h) (Or.inl ⟨by rfl, fun w _ => by (go_simp; first | exact ⟨rfl, rfl⟩ | rfl)⟩) (by go_simp <;> with_reducible rfl) ?_
      refine wpAnyU_take (i := 14) (v := _) rfl (by kernel_rfl) (by kernel_rfl) (by kernel_rfl) (by kernel_rfl) (by kernel_rfl) (fun _ _ _ h => h) (Or.inl ⟨by rfl, fun w ⟨nq, hw⟩ => by (subst hw; go_simp; first | exact ⟨rfl, rfl⟩ | rfl)⟩) (by go_simp <;> with_reducible rfl) ?_
      refine wpAnyU_takeP (i := 17) (v := _) rfl (by decide) (by kernel_rfl) (by kernel_rfl) (by kernel_rfl) (fun _ _ _ h => h) (Or.inl ⟨by rfl, fun w _ => by (go_simp; first | exact ⟨rfl, rfl⟩ | rfl)⟩) (by go_simp <;> with_reducible rfl) ?_
      refine wpAnyU_takeP (i := 18) (v := _) rfl (by decide) (by kernel_rfl) (by kernel_rfl) (by kernel_rfl) (fun _ _ _ h => h) (Or.inl ⟨by rfl, fun w _ => by (go_simp; first | exact ⟨rfl, rfl⟩ | rfl)⟩) (by go_simp <;> with_reducible rfl) ?_
      refine wpAnyU_takeP (i := 19) (v := _) rfl (by decide) (by kernel_rfl) (by kernel_rfl) (by kernel_rfl) (fun _ _ _ h => h) (Or.inl ⟨by rfl, fun w _ => by (go_simp; first | exact ⟨rfl, rfl⟩ | rfl)⟩) (by go_simp <;> with_reducible rfl) ?_
      refine wpAnyU_takeP (i := 20) (v := _) rfl (by decide) (by kernel_rfl) (by kernel_rfl) (by kernel_rfl) (fun _ _ _ h => h) (Or.inl ⟨by rfl, fun w _ => by (go_simp; first | exact ⟨rfl, rfl⟩ | rfl)⟩) (by go_simp <;> with_reducible rfl) ?_
      refine wpAnyU_take (i := 21) (v := _) rfl (by kernel_rfl) (by kernel_rfl) (by kernel_rfl) (by kernel_rfl) (by kernel_rfl) (fun _ _ _ h => h) (Or.inl ⟨by rfl, fun w ⟨nq, hw⟩ => by (subst hw; go_simp; first | exact ⟨rfl, rfl⟩ | rfl)⟩) (by go_simp <;> with_reducible rfl) ?_
      clear q0 q1 q2
      refine genUv (RG B g s0 nf wr ⟨vb, vc, vw⟩ _ _ _ _ _ _ _) H ?_
      clear H
      intro wz H
      refine wpAnyU_ready (CG.of (Hmk.out _ H.box)) (rs := [8, 15, 22]) (by kernel_rfl) (by simp) ?_
      refine (AllReadyU.cons rfl (fun K hK => ?_) (AllReadyU.cons rfl (fun K hK => ?_) (AllReadyU.cons rfl (fun K hK => ?_) AllReadyU.nil)))
      · go_simp
        refine hK _ _ ?_
        clear hK K
        refine genUv (RG B g s0 nf wr ⟨vb, vc, vw⟩ _ _ _ _ _ _ _) (RG.alloc8 H) ?_
        clear H
        intro wz H
        refine wpAnyU_ready (CG.of (Hmk.out _ H.box)) (rs := [9, 15, 22]) (by kernel_rfl) (by simp) ?_
        refine (AllReadyU.cons rfl (fun K hK => ?_) (AllReadyU.cons rfl (fun K hK => ?_) (AllReadyU.cons rfl (fun K hK => ?_) AllReadyU.nil)))
        · refine step_of rfl (app_intD (l1 := [0]) 8 Try.underlying25 info_int rfl (.tmp 19) (.tmp 20) rfl rfl (one_row (H.one8 _ rfl).2) H.row.ob (Nat.le_trans H.bs H.sz) (by rw [Lob.out]; simp; omega) (by rw [Lob.out]; unfold maxLen; simp; omega) ?_)
          intro v1 W1 ho1 hg1 hr1
          refine hK _ _ ?_
          clear hK K
          replace H := RG.app9 H rfl ho1 hg1 hr1
          obtain ⟨a1, c1, e1⟩ := ho1.form
          generalize (List.length _) = m1 at e1
          subst e1
          clear ho1 hg1 hr1
          refine wpAnyU_ready (CG.of (Hmk.out _ H.box)) (rs := [15, 22]) (by kernel_rfl) (by simp) ?_
          refine (AllReadyU.cons rfl (fun K hK => ?_) (AllReadyU.cons rfl (fun K hK => ?_) AllReadyU.nil))
          · go_simp
            refine hK _ _ ?_
            clear hK K
            refine genUv (RG B g s0 nf wr ⟨vb, vc, vw⟩ _ _ _ _ _ _ _) (RG.alloc15 H) ?_
            clear H
            intro wz H
            refine wpAnyU_ready (CG.of (Hmk.out _ H.box)) (rs := [16, 22]) (by kernel_rfl) (by simp) ?_
            refine (AllReadyU.cons rfl (fun K hK => ?_) (AllReadyU.cons rfl (fun K hK => ?_) AllReadyU.nil))
            · refine step_of rfl (app_intD (l1 := [(-1)]) 8 Try.underlying25 info_int rfl (.tmp 26) (.tmp 27) rfl rfl (one_row (H.one15 _ rfl).2) H.row.oc (Nat.le_trans H.bs H.sz) (by rw [Loc.out]; simp; omega) (by rw [Loc.out]; unfold maxLen; simp; omega) ?_)
              intro v1 W1 ho1 hg1 hr1
              refine hK _ _ ?_
              clear hK K
              replace H := RG.app16 H rfl ho1 hg1 hr1
              obtain ⟨a1, c1, e1⟩ := ho1.form
              generalize (List.length _) = m1 at e1
              subst e1
              clear ho1 hg1 hr1
              refine wpAnyU_ready (CG.of (Hmk.out _ H.box)) (rs := [22]) (by kernel_rfl) (by simp) ?_
              refine (AllReadyU.cons rfl (fun K hK => ?_) AllReadyU.nil)
              go_simp
              refine hK _ _ ?_
              clear hK K
              refine genUv (RG B g s0 nf wr ⟨vb, vc, vw⟩ _ _ _ _ _ _ _) (RG.alloc22 H) ?_
              clear H
              intro wz H
              refine wpAnyU_ready (CG.of (Hmk.out _ H.box)) (rs := [23]) (by kernel_rfl) (by simp) ?_
              refine (AllReadyU.cons rfl (fun K hK => ?_) AllReadyU.nil)
              refine step_of rfl (app_intD (l1 := [(-1)]) 8 Try.underlying25 info_int rfl (.tmp 33) (.tmp 34) rfl rfl (one_row (H.one22 _ rfl).2) H.row.ow (Nat.le_trans H.bs H.sz) (by rw [Low.out]; simp; omega) (by rw [Low.out]; unfold maxLen; simp; omega) ?_)
              intro v1 W1 ho1 hg1 hr1
              refine hK _ _ ?_
              clear hK K
              replace H := RG.app23 H rfl ho1 hg1 hr1
              obtain ⟨a1, c1, e1⟩ := ho1.form
              generalize (List.length _) = m1 at e1
              subst e1
              clear ho1 hg1 hr1
              have hE := HA.out.gB
              obtain ⟨d0, d1, d2, _, fr⟩ := H.box.cells
              have f0 := fr 0
              clear fr d1 d2
              refine wpAnyU_takeP (i := 24) (v := _) rfl (by decide) (by kernel_rfl) (by kernel_rfl) (by kernel_rfl) (fun _ _ _ h => h) (Or.inl ⟨by rfl, fun w _ => by (go_simp; first | exact ⟨rfl, rfl⟩ | rfl)⟩) (by go_simp <;> with_reducible rfl) ?_
              refine wpAnyU_takeP (i := 25) (v := _) rfl (by decide) (by kernel_rfl) (by kernel_rfl) (by kernel_rfl) (fun _ _ _ h => h) (Or.inl ⟨by rfl, fun w _ => by (go_simp; first | exact ⟨rfl, rfl⟩ | rfl)⟩) (by go_simp <;> with_reducible rfl) ?_
              refine wpAnyU_takeP (i := 26) (v := _) rfl (by decide) (by kernel_rfl) (by kernel_rfl) (by kernel_rfl) (fun _ _ _ h => h) (Or.inl ⟨by rfl, fun w _ => by (go_simp; first | exact ⟨rfl, rfl⟩ | rfl)⟩) (by go_simp <;> with_reducible rfl) ?_
              refine wpAnyU_ready (CG.of (Hmk.out _ H.box)) (rs := [27]) (by kernel_rfl) (by simp) ?_
              refine (AllReadyU.cons rfl (fun K hK => ?_) AllReadyU.nil)
              go_simp
              refine hK _ _ ?_
              clear hK K
              refine genUv (R2 B g nf wr ⟨vb, vc, vw⟩ _ _ _ _ _) (H.st0 hE).st1 ?_
              clear H f0 d0
              intro wz H
              obtain ⟨d0, d1, d2, _, fr⟩ := H.box.cells
              have f1 := fr 1
              dsimp only at d1
              clear fr d0 d2
              refine wpAnyU_takeP (i := 28) (v := _) rfl (by decide) (by kernel_rfl) (by kernel_rfl) (by kernel_rfl) (fun _ _ _ h => h) (Or.inl ⟨by rfl, fun w _ => by (go_simp; first | exact ⟨rfl, rfl⟩ | rfl)⟩) (by go_simp <;> with_reducible rfl) ?_
              refine wpAnyU_takeP (i := 29) (v := _) rfl (by decide) (by kernel_rfl) (by kernel_rfl) (by kernel_rfl) (fun _ _ _ h => h) (Or.inl ⟨by rfl, fun w _ => by (go_simp; first | exact ⟨rfl, rfl⟩ | rfl)⟩) (by go_simp <;> with_reducible rfl) ?_
              refine wpAnyU_takeP (i := 30) (v := _) rfl (by decide) (by kernel_rfl) (by kernel_rfl) (by kernel_rfl) (fun _ _ _ h => h) (Or.inl ⟨by rfl, fun w _ => by (go_simp; first | exact ⟨rfl, rfl⟩ | rfl)⟩) (by go_simp <;> with_reducible rfl) ?_
              refine wpAnyU_readyV (by kernel_rfl) (rs := [31]) (by kernel_rfl) (by simp) ?_
              refine (AllReadyU.cons rfl (fun K hK => ?_) AllReadyU.nil)
              go_simp
              refine hK _ _ ?_
              clear hK K
              refine genUv (R2 B g nf wr ⟨vb, vc, vw⟩ _ _ _ _ _) H.st2 ?_
              clear H f1 d1
              intro wz H
              obtain ⟨d0, d1, d2, _, fr⟩ := H.box.cells
              have f2 := fr 2
              dsimp only at d2
              clear fr d0 d1
              refine wpAnyU_takeP (i := 32) (v := _) rfl (by decide) (by kernel_rfl) (by kernel_rfl) (by kernel_rfl) (fun _ _ _ h => h) (Or.inl ⟨by rfl, fun w _ => by (go_simp; first | exact ⟨rfl, rfl⟩ | rfl)⟩) (by go_simp <;> with_reducible rfl) ?_
              refine wpAnyU_takeP (i := 33) (v := _) rfl (by decide) (by kernel_rfl) (by kernel_rfl) (by kernel_rfl) (fun _ _ _ h => h) (Or.inl ⟨by rfl, fun w _ => by (go_simp; first | exact ⟨rfl, rfl⟩ | rfl)⟩) (by go_simp <;> with_reducible rfl) ?_
              refine wpAnyU_takeP (i := 34) (v := _) rfl (by decide) (by kernel_rfl) (by kernel_rfl) (by kernel_rfl) (fun _ _ _ h => h) (Or.inl ⟨by rfl, fun w _ => by (go_simp; first | exact ⟨rfl, rfl⟩ | rfl)⟩) (by go_simp <;> with_reducible rfl) ?_
              refine wpAnyU_readyV (by kernel_rfl) (rs := [35]) (by kernel_rfl) (by simp) ?_
              refine (AllReadyU.cons rfl (fun K hK => ?_) AllReadyU.nil)
              go_simp
              refine hK _ _ ?_
              clear hK K
              refine genUv (R2 B g nf wr ⟨vb, vc, vw⟩ _ _ _ _ _) H.st3 ?_
              clear H f2 d2
              intro wz H
              refine wpAnyU_done (by kernel_rfl) (by kernel_rfl) (by go_simp <;> with_reducible rfl) ?_
              have H := Lib.hid H
              repeat' (first | go_values | go_skip | go_guarded | go_step | go_upon)
              go_roundg (gk - 1)
              case measure => omega
              case rel =>
                refine ⟨j + 1, _, by omega, by omega, Lib.hid ⟨?_, ?_, hE⟩, Lib.hid (HS.out.trans H.out.st)⟩
                · have := H.out.box
                  rw [Hnf.out] at this
                  exact this
                · have := H.out.row
                  unfold TM.grow
                  dsimp only
                  rw [grow_snoc _ _ _ (by rw [H1.out]; exact hj), grow_snoc _ _ _ (by rw [← HL.out]; exact hj), grow_snoc _ _ _ (by rw [H2.out]; exact hj)]
                  exact this
            · go_simp
              refine hK _ _ ?_
              clear hK K
              refine genUv (RG B g s0 nf wr ⟨vb, vc, vw⟩ _ _ _ _ _ _ _) (RG.alloc22 H) ?_
              clear H
              intro wz H
              refine wpAnyU_ready (CG.of (Hmk.out _ H.box)) (rs := [16]) (by kernel_rfl) (by simp) ?_
              refine (AllReadyU.cons rfl (fun K hK => ?_) AllReadyU.nil)
              refine step_of rfl (app_intD (l1 := [(-1)]) 8 Try.underlying25 info_int rfl (.tmp 26) (.tmp 27) rfl rfl (one_row (H.one15 _ rfl).2) H.row.oc (Nat.le_trans H.bs H.sz) (by rw [Loc.out]; simp; omega) (by rw [Loc.out]; unfold maxLen; simp; omega) ?_)
              intro v1 W1 ho1 hg1 hr1
              refine hK _ _ ?_
              clear hK K
              replace H := RG.app16 H rfl ho1 hg1 hr1
              obtain ⟨a1, c1, e1⟩ := ho1.form
              generalize (List.length _) = m1 at e1
              subst e1
              clear ho1 hg1 hr1
              refine wpAnyU_ready (CG.of (Hmk.out _ H.box)) (rs := [23]) (by kernel_rfl) (by simp) ?_
              refine (AllReadyU.cons rfl (fun K hK => ?_) AllReadyU.nil)
              refine step_of rfl (app_intD (l1 := [(-1)]) 8 Try.underlying25 info_int rfl (.tmp 33) (.tmp 34) rfl rfl (one_row (H.one22 _ rfl).2) H.row.ow (Nat.le_trans H.bs H.sz) (by rw [Low.out]; simp; omega) (by rw [Low.out]; unfold maxLen; simp; omega) ?_)
              intro v1 W1 ho1 hg1 hr1
              refine hK _ _ ?_
              clear hK K
              replace H := RG.app23 H rfl ho1 hg1 hr1
              obtain ⟨a1, c1, e1⟩ := ho1.form
              generalize (List.length _) = m1 at e1
              subst e1
              clear ho1 hg1 hr1
              have hE := HA.out.gB
              obtain ⟨d0, d1, d2, _, fr⟩ := H.box.cells
              have f0 := fr 0
              clear fr d1 d2
              refine wpAnyU_takeP (i := 24) (v := _) rfl (by decide) (by kernel_rfl) (by kernel_rfl) (by kernel_rfl) (fun _ _ _ h => h) (Or.inl ⟨by rfl, fun w _ => by (go_simp; first | exact ⟨rfl, rfl⟩ | rfl)⟩) (by go_simp <;> with_reducible rfl) ?_
              refine wpAnyU_takeP (i := 25) (v := _) rfl (by decide) (by kernel_rfl) (by kernel_rfl) (by kernel_rfl) (fun _ _ _ h => h) (Or.inl ⟨by rfl, fun w _ => by (go_simp; first | exact ⟨rfl, rfl⟩ | rfl)⟩) (by go_simp <;> with_reducible rfl) ?_
              refine wpAnyU_takeP (i := 26) (v := _) rfl (by decide) (by kernel_rfl) (by kernel_rfl) (by kernel_rfl) (fun _ _ _ h => h) (Or.inl ⟨by rfl, fun w _ => by (go_simp; first | exact ⟨rfl, rfl⟩ | rfl)⟩) (by go_simp <;> with_reducible rfl) ?_
              refine wpAnyU_ready (CG.of (Hmk.out _ H.box)) (rs := [27]) (by kernel_rfl) (by simp) ?_
              refine (AllReadyU.cons rfl (fun K hK => ?_) AllReadyU.nil)
              go_simp
              refine hK _ _ ?_
              clear hK K
              refine genUv (R2 B g nf wr ⟨vb, vc, vw⟩ _ _ _ _ _) (H.st0 hE).st1 ?_
              clear H f0 d0
              intro wz H
              obtain ⟨d0, d1, d2, _, fr⟩ := H.box.cells
              have f1 := fr 1
              dsimp only at d1
              clear fr d0 d2
              refine wpAnyU_takeP (i := 28) (v := _) rfl (by decide) (by kernel_rfl) (by kernel_rfl) (by kernel_rfl) (fun _ _ _ h => h) (Or.inl ⟨by rfl, fun w _ => by (go_simp; first | exact ⟨rfl, rfl⟩ | rfl)⟩) (by go_simp <;> with_reducible rfl) ?_
              refine wpAnyU_takeP (i := 29) (v := _) rfl (by decide) (by kernel_rfl) (by kernel_rfl) (by kernel_rfl) (fun _ _ _ h => h) (Or.inl ⟨by rfl, fun w _ => by (go_simp; first | exact ⟨rfl, rfl⟩ | rfl)⟩) (by go_simp <;> with_reducible rfl) ?_
              refine wpAnyU_takeP (i := 30) (v := _) rfl (by decide) (by kernel_rfl) (by kernel_rfl) (by kernel_rfl) (fun _ _ _ h => h) (Or.inl ⟨by rfl, fun w _ => by (go_simp; first | exact ⟨rfl, rfl⟩ | rfl)⟩) (by go_simp <;> with_reducible rfl) ?_
              refine wpAnyU_readyV (by kernel_rfl) (rs := [31]) (by kernel_rfl) (by simp) ?_
              refine (AllReadyU.cons rfl (fun K hK => ?_) AllReadyU.nil)
              go_simp
              refine hK _ _ ?_
              clear hK K
              refine genUv (R2 B g nf wr ⟨vb, vc, vw⟩ _ _ _ _ _) H.st2 ?_
              clear H f1 d1
              intro wz H
              obtain ⟨d0, d1, d2, _, fr⟩ := H.box.cells
              have f2 := fr 2
              dsimp only at d2
              clear fr d0 d1
              refine wpAnyU_takeP (i := 32) (v := _) rfl (by decide) (by kernel_rfl) (by kernel_rfl) (by kernel_rfl) (fun _ _ _ h => h) (Or.inl ⟨by rfl, fun w _ => by (go_simp; first | exact ⟨rfl, rfl⟩ | rfl)⟩) (by go_simp <;> with_reducible rfl) ?_
              refine wpAnyU_takeP (i := 33) (v := _) rfl (by decide) (by kernel_rfl) (by kernel_rfl) (by kernel_rfl) (fun _ _ _ h => h) (Or.inl ⟨by rfl, fun w _ => by (go_simp; first | exact ⟨rfl, rfl⟩ | rfl)⟩) (by go_simp <;> with_reducible rfl) ?_
              refine wpAnyU_takeP (i := 34) (v := _) rfl (by decide) (by kernel_rfl) (by kernel_rfl) (by kernel_rfl) (fun _ _ _ h => h) (Or.inl ⟨by rfl, fun w _ => by (go_simp; first | exact ⟨rfl, rfl⟩ | rfl)⟩) (by go_simp <;> with_reducible rfl) ?_
              refine wpAnyU_readyV (by kernel_rfl) (rs := [35]) (by kernel_rfl) (by simp) ?_
              refine (AllReadyU.cons rfl (fun K hK => ?_) AllReadyU.nil)
              go_simp
              refine hK _ _ ?_
              clear hK K
              refine genUv (R2 B g nf wr ⟨vb, vc, vw⟩ _ _ _ _ _) H.st3 ?_
              clear H f2 d2
              intro wz H
              refine wpAnyU_done (by kernel_rfl) (by kernel_rfl) (by go_simp <;> with_reducible rfl) ?_
              have H := Lib.hid H
              repeat' (first | go_values | go_skip | go_guarded | go_step | go_upon)
              go_roundg (gk - 1)
              case measure => omega
              case rel =>
                refine ⟨j + 1, _, by omega, by omega, Lib.hid ⟨?_, ?_, hE⟩, Lib.hid (HS.out.trans H.out.st)⟩
                · have := H.out.box
                  rw [Hnf.out] at this
                  exact this
                · have := H.out.row
                  unfold TM.grow
                  dsimp only
                  rw [grow_snoc _ _ _ (by rw [H1.out]; exact hj), grow_snoc _ _ _ (by rw [← HL.out]; exact hj), grow_snoc _ _ _ (by rw [H2.out]; exact hj)]
                  exact this
          · go_simp
            refine hK _ _ ?_
            clear hK K
            refine genUv (RG B g s0 nf wr ⟨vb, vc, vw⟩ _ _ _ _ _ _ _) (RG.alloc22 H) ?_
            clear H
            intro wz H
            refine wpAnyU_ready (CG.of (Hmk.out _ H.box)) (rs := [15]) (by kernel_rfl) (by simp) ?_
            refine (AllReadyU.cons rfl (fun K hK => ?_) AllReadyU.nil)
            go_simp
            refine hK _ _ ?_
            clear hK K
            refine genUv (RG B g s0 nf wr ⟨vb, vc, vw⟩ _ _ _ _ _ _ _) (RG.alloc15 H) ?_
            clear H
            intro wz H
            refine wpAnyU_ready (CG.of (Hmk.out _ H.box)) (rs := [16]) (by kernel_rfl) (by simp) ?_
            refine (AllReadyU.cons rfl (fun K hK => ?_) AllReadyU.nil)
            refine step_of rfl (app_intD (l1 := [(-1)]) 8 Try.underlying25 info_int rfl (.tmp 26) (.tmp 27) rfl rfl (one_row (H.one15 _ rfl).2) H.row.oc (Nat.le_trans H.bs H.sz) (by rw [Loc.out]; simp; omega) (by rw [Loc.out]; unfold maxLen; simp; omega) ?_)
            intro v1 W1 ho1 hg1 hr1
            refine hK _ _ ?_
            clear hK K
            replace H := RG.app16 H rfl ho1 hg1 hr1
            obtain ⟨a1, c1, e1⟩ := ho1.form
            generalize (List.length _) = m1 at e1
            subst e1
            clear ho1 hg1 hr1
            refine wpAnyU_ready (CG.of (Hmk.out _ H.box)) (rs := [23]) (by kernel_rfl) (by simp) ?_
            refine (AllReadyU.cons rfl (fun K hK => ?_) AllReadyU.nil)
            refine step_of rfl (app_intD (l1 := [(-1)]) 8 Try.underlying25 info_int rfl (.tmp 33) (.tmp 34) rfl rfl (one_row (H.one22 _ rfl).2) H.row.ow (Nat.le_trans H.bs H.sz) (by rw [Low.out]; simp; omega) (by rw [Low.out]; unfold maxLen; simp; omega) ?_)
            intro v1 W1 ho1 hg1 hr1
            refine hK _ _ ?_
            clear hK K
            replace H := RG.app23 H rfl ho1 hg1 hr1
            obtain ⟨a1, c1, e1⟩ := ho1.form
            generalize (List.length _) = m1 at e1
            subst e1
            clear ho1 hg1 hr1
            have hE := HA.out.gB
            obtain ⟨d0, d1, d2, _, fr⟩ := H.box.cells
            have f0 := fr 0
            clear fr d1 d2
            refine wpAnyU_takeP (i := 24) (v := _) rfl (by decide) (by kernel_rfl) (by kernel_rfl) (by kernel_rfl) (fun _ _ _ h => h) (Or.inl ⟨by rfl, fun w _ => by (go_simp; first | exact ⟨rfl, rfl⟩ | rfl)⟩) (by go_simp <;> with_reducible rfl) ?_
            refine wpAnyU_takeP (i := 25) (v := _) rfl (by decide) (by kernel_rfl) (by kernel_rfl) (by kernel_rfl) (fun _ _ _ h => h) (Or.inl ⟨by rfl, fun w _ => by (go_simp; first | exact ⟨rfl, rfl⟩ | rfl)⟩) (by go_simp <;> with_reducible rfl) ?_
            refine wpAnyU_takeP (i := 26) (v := _) rfl (by decide) (by kernel_rfl) (by kernel_rfl) (by kernel_rfl) (fun _ _ _ h => h) (Or.inl ⟨by rfl, fun w _ => by (go_simp; first | exact ⟨rfl, rfl⟩ | rfl)⟩) (by go_simp <;> with_reducible rfl) ?_
            refine wpAnyU_ready (CG.of (Hmk.out _ H.box)) (rs := [27]) (by kernel_rfl) (by simp) ?_
            refine (AllReadyU.cons rfl (fun K hK => ?_) AllReadyU.nil)
            go_simp
            refine hK _ _ ?_
            clear hK K
            refine genUv (R2 B g nf wr ⟨vb, vc, vw⟩ _ _ _ _ _) (H.st0 hE).st1 ?_
            clear H f0 d0
            intro wz H
            obtain ⟨d0, d1, d2, _, fr⟩ := H.box.cells
            have f1 := fr 1
            dsimp only at d1
            clear fr d0 d2
            refine wpAnyU_takeP (i := 28) (v := _) rfl (by decide) (by kernel_rfl) (by kernel_rfl) (by kernel_rfl) (fun _ _ _ h => h) (Or.inl ⟨by rfl, fun w _ => by (go_simp; first | exact ⟨rfl, rfl⟩ | rfl)⟩) (by go_simp <;> with_reducible rfl) ?_
            refine wpAnyU_takeP (i := 29) (v := _) rfl (by decide) (by kernel_rfl) (by kernel_rfl) (by kernel_rfl) (fun _ _ _ h => h) (Or.inl ⟨by rfl, fun w _ => by (go_simp; first | exact ⟨rfl, rfl⟩ | rfl)⟩) (by go_simp <;> with_reducible rfl) ?_
            refine wpAnyU_takeP (i := 30) (v := _) rfl (by decide) (by kernel_rfl) (by kernel_rfl) (by kernel_rfl) (fun _ _ _ h => h) (Or.inl ⟨by rfl, fun w _ => by (go_simp; first | exact ⟨rfl, rfl⟩ | rfl)⟩) (by go_simp <;> with_reducible rfl) ?_
            refine wpAnyU_readyV (by kernel_rfl) (rs := [31]) (by kernel_rfl) (by simp) ?_
            refine (AllReadyU.cons rfl (fun K hK => ?_) AllReadyU.nil)
            go_simp
            refine hK _ _ ?_
            clear hK K
            refine genUv (R2 B g nf wr ⟨vb, vc, vw⟩ _ _ _ _ _) H.st2 ?_
            clear H f1 d1
            intro wz H
            obtain ⟨d0, d1, d2, _, fr⟩ := H.box.cells
            have f2 := fr 2
            dsimp only at d2
            clear fr d0 d1
            refine wpAnyU_takeP (i := 32) (v := _) rfl (by decide) (by kernel_rfl) (by kernel_rfl) (by kernel_rfl) (fun _ _ _ h => h) (Or.inl ⟨by rfl, fun w _ => by (go_simp; first | exact ⟨rfl, rfl⟩ | rfl)⟩) (by go_simp <;> with_reducible rfl) ?_
            refine wpAnyU_takeP (i := 33) (v := _) rfl (by decide) (by kernel_rfl) (by kernel_rfl) (by kernel_rfl) (fun _ _ _ h => h) (Or.inl ⟨by rfl, fun w _ => by (go_simp; first | exact ⟨rfl, rfl⟩ | rfl)⟩) (by go_simp <;> with_reducible rfl) ?_
            refine wpAnyU_takeP (i := 34) (v := _) rfl (by decide) (by kernel_rfl) (by kernel_rfl) (by kernel_rfl) (fun _ _ _ h => h) (Or.inl ⟨by rfl, fun w _ => by (go_simp; first | exact ⟨rfl, rfl⟩ | rfl)⟩) (by go_simp <;> with_reducible rfl) ?_
            refine wpAnyU_readyV (by kernel_rfl) (rs := [35]) (by kernel_rfl) (by simp) ?_
            refine (AllReadyU.cons rfl (fun K hK => ?_) AllReadyU.nil)
            go_simp
            refine hK _ _ ?_
            clear hK K
            refine genUv (R2 B g nf wr ⟨vb, vc, vw⟩ _ _ _ _ _) H.st3 ?_
            clear H f2 d2
            intro wz H
            refine wpAnyU_done (by kernel_rfl) (by kernel_rfl) (by go_simp <;> with_reducible rfl) ?_
            have H := Lib.hid H
            repeat' (first | go_values | go_skip | go_guarded | go_step | go_upon)
            go_roundg (gk - 1)
            case measure => omega
            case rel =>
              refine ⟨j + 1, _, by omega, by omega, Lib.hid ⟨?_, ?_, hE⟩, Lib.hid (HS.out.trans H.out.st)⟩
              · have := H.out.box
                rw [Hnf.out] at this
                exact this
              · have := H.out.row
                unfold TM.grow
                dsimp only
                rw [grow_snoc _ _ _ (by rw [H1.out]; exact hj), grow_snoc _ _ _ (by rw [← HL.out]; exact hj), grow_snoc _ _ _ (by rw [H2.out]; exact hj)]
                exact this
        · go_simp
          refine hK _ _ ?_
          clear hK K
          refine genUv (RG B g s0 nf wr ⟨vb, vc, vw⟩ _ _ _ _ _ _ _) (RG.alloc15 H) ?_
          clear H
          intro wz H
          refine wpAnyU_ready (CG.of (Hmk.out _ H.box)) (rs := [9, 22]) (by kernel_rfl) (by simp) ?_
          refine (AllReadyU.cons rfl (fun K hK => ?_) (AllReadyU.cons rfl (fun K hK => ?_) AllReadyU.nil))
          · refine step_of rfl (app_intD (l1 := [0]) 8 Try.underlying25 info_int rfl (.tmp 19) (.tmp 20) rfl rfl (one_row (H.one8 _ rfl).2) H.row.ob (Nat.le_trans H.bs H.sz) (by rw [Lob.out]; simp; omega) (by rw [Lob.out]; unfold maxLen; simp; omega) ?_)
            intro v1 W1 ho1 hg1 hr1
            refine hK _ _ ?_
            clear hK K
            replace H := RG.app9 H rfl ho1 hg1 hr1
            obtain ⟨a1, c1, e1⟩ := ho1.form
            generalize (List.length _) = m1 at e1
            subst e1
            clear ho1 hg1 hr1
            refine wpAnyU_ready (CG.of (Hmk.out _ H.box)) (rs := [16, 22]) (by kernel_rfl) (by simp) ?_
            refine (AllReadyU.cons rfl (fun K hK => ?_) (AllReadyU.cons rfl (fun K hK => ?_) AllReadyU.nil))
            · refine step_of rfl (app_intD (l1 := [(-1)]) 8 Try.underlying25 info_int rfl (.tmp 26) (.tmp 27) rfl rfl (one_row (H.one15 _ rfl).2) H.row.oc (Nat.le_trans H.bs H.sz) (by rw [Loc.out]; simp; omega) (by rw [Loc.out]; unfold maxLen; simp; omega) ?_)
              intro v1 W1 ho1 hg1 hr1
              refine hK _ _ ?_
              clear hK K
              replace H := RG.app16 H rfl ho1 hg1 hr1
              obtain ⟨a1, c1, e1⟩ := ho1.form
              generalize (List.length _) = m1 at e1
              subst e1
              clear ho1 hg1 hr1
              refine wpAnyU_ready (CG.of (Hmk.out _ H.box)) (rs := [22]) (by kernel_rfl) (by simp) ?_
              refine (AllReadyU.cons rfl (fun K hK => ?_) AllReadyU.nil)
              go_simp
              refine hK _ _ ?_
              clear hK K
              refine genUv (RG B g s0 nf wr ⟨vb, vc, vw⟩ _ _ _ _ _ _ _) (RG.alloc22 H) ?_
              clear H
              intro wz H
              refine wpAnyU_ready (CG.of (Hmk.out _ H.box)) (rs := [23]) (by kernel_rfl) (by simp) ?_
              refine (AllReadyU.cons rfl (fun K hK => ?_) AllReadyU.nil)
              refine step_of rfl (app_intD (l1 := [(-1)]) 8 Try.underlying25 info_int rfl (.tmp 33) (.tmp 34) rfl rfl (one_row (H.one22 _ rfl).2) H.row.ow (Nat.le_trans H.bs H.sz) (by rw [Low.out]; simp; omega) (by rw [Low.out]; unfold maxLen; simp; omega) ?_)
              intro v1 W1 ho1 hg1 hr1
              refine hK _ _ ?_
              clear hK K
              replace H := RG.app23 H rfl ho1 hg1 hr1
              obtain ⟨a1, c1, e1⟩ := ho1.form
              generalize (List.length _) = m1 at e1
              subst e1
              clear ho1 hg1 hr1
              have hE := HA.out.gB
              obtain ⟨d0, d1, d2, _, fr⟩ := H.box.cells
              have f0 := fr 0
              clear fr d1 d2
              refine wpAnyU_takeP (i := 24) (v := _) rfl (by decide) (by kernel_rfl) (by kernel_rfl) (by kernel_rfl) (fun _ _ _ h => h) (Or.inl ⟨by rfl, fun w _ => by (go_simp; first | exact ⟨rfl, rfl⟩ | rfl)⟩) (by go_simp <;> with_reducible rfl) ?_
              refine wpAnyU_takeP (i := 25) (v := _) rfl (by decide) (by kernel_rfl) (by kernel_rfl) (by kernel_rfl) (fun _ _ _ h => h) (Or.inl ⟨by rfl, fun w _ => by (go_simp; first | exact ⟨rfl, rfl⟩ | rfl)⟩) (by go_simp <;> with_reducible rfl) ?_
              refine wpAnyU_takeP (i := 26) (v := _) rfl (by decide) (by kernel_rfl) (by kernel_rfl) (by kernel_rfl) (fun _ _ _ h => h) (Or.inl ⟨by rfl, fun w _ => by (go_simp; first | exact ⟨rfl, rfl⟩ | rfl)⟩) (by go_simp <;> with_reducible rfl) ?_
              refine wpAnyU_ready (CG.of (Hmk.out _ H.box)) (rs := [27]) (by kernel_rfl) (by simp) ?_
              refine (AllReadyU.cons rfl (fun K hK => ?_) AllReadyU.nil)
              go_simp
              refine hK _ _ ?_
              clear hK K
              refine genUv (R2 B g nf wr ⟨vb, vc, vw⟩ _ _ _ _ _) (H.st0 hE).st1 ?_
              clear H f0 d0
              intro wz H
              obtain ⟨d0, d1, d2, _, fr⟩ := H.box.cells
              have f1 := fr 1
              dsimp only at d1
              clear fr d0 d2
              refine wpAnyU_takeP (i := 28) (v := _) rfl (by decide) (by kernel_rfl) (by kernel_rfl) (by kernel_rfl) (fun _ _ _ h => h) (Or.inl ⟨by rfl, fun w _ => by (go_simp; first | exact ⟨rfl, rfl⟩ | rfl)⟩) (by go_simp <;> with_reducible rfl) ?_
              refine wpAnyU_takeP (i := 29) (v := _) rfl (by decide) (by kernel_rfl) (by kernel_rfl) (by kernel_rfl) (fun _ _ _ h => h) (Or.inl ⟨by rfl, fun w _ => by (go_simp; first | exact ⟨rfl, rfl⟩ | rfl)⟩) (by go_simp <;> with_reducible rfl) ?_
              refine wpAnyU_takeP (i := 30) (v := _) rfl (by decide) (by kernel_rfl) (by kernel_rfl) (by kernel_rfl) (fun _ _ _ h => h) (Or.inl ⟨by rfl, fun w _ => by (go_simp; first | exact ⟨rfl, rfl⟩ | rfl)⟩) (by go_simp <;> with_reducible rfl) ?_
              refine wpAnyU_readyV (by kernel_rfl) (rs := [31]) (by kernel_rfl) (by simp) ?_
              refine (AllReadyU.cons rfl (fun K hK => ?_) AllReadyU.nil)
              go_simp
              refine hK _ _ ?_
              clear hK K
              refine genUv (R2 B g nf wr ⟨vb, vc, vw⟩ _ _ _ _ _) H.st2 ?_
              clear H f1 d1
              intro wz H
              obtain ⟨d0, d1, d2, _, fr⟩ := H.box.cells
              have f2 := fr 2
              dsimp only at d2
              clear fr d0 d1
              refine wpAnyU_takeP (i := 32) (v := _) rfl (by decide) (by kernel_rfl) (by kernel_rfl) (by kernel_rfl) (fun _ _ _ h => h) (Or.inl ⟨by rfl, fun w _ => by (go_simp; first | exact ⟨rfl, rfl⟩ | rfl)⟩) (by go_simp <;> with_reducible rfl) ?_
              refine wpAnyU_takeP (i := 33) (v := _) rfl (by decide) (by kernel_rfl) (by kernel_rfl) (by kernel_rfl) (fun _ _ _ h => h) (Or.inl ⟨by rfl, fun w _ => by (go_simp; first | exact ⟨rfl, rfl⟩ | rfl)⟩) (by go_simp <;> with_reducible rfl) ?_
              refine wpAnyU_takeP (i := 34) (v := _) rfl (by decide) (by kernel_rfl) (by kernel_rfl) (by kernel_rfl) (fun _ _ _ h => h) (Or.inl ⟨by rfl, fun w _ => by (go_simp; first | exact ⟨rfl, rfl⟩ | rfl)⟩) (by go_simp <;> with_reducible rfl) ?_
              refine wpAnyU_readyV (by kernel_rfl) (rs := [35]) (by kernel_rfl) (by simp) ?_
              refine (AllReadyU.cons rfl (fun K hK => ?_) AllReadyU.nil)
              go_simp
              refine hK _ _ ?_
              clear hK K
              refine genUv (R2 B g nf wr ⟨vb, vc, vw⟩ _ _ _ _ _) H.st3 ?_
              clear H f2 d2
              intro wz H
              refine wpAnyU_done (by kernel_rfl) (by kernel_rfl) (by go_simp <;> with_reducible rfl) ?_
              have H := Lib.hid H
              repeat' (first | go_values | go_skip | go_guarded | go_step | go_upon)
              go_roundg (gk - 1)
              case measure => omega
              case rel =>
                refine ⟨j + 1, _, by omega, by omega, Lib.hid ⟨?_, ?_, hE⟩, Lib.hid (HS.out.trans H.out.st)⟩
                · have := H.out.box
                  rw [Hnf.out] at this
                  exact this
                · have := H.out.row
                  unfold TM.grow
                  dsimp only
                  rw [grow_snoc _ _ _ (by rw [H1.out]; exact hj), grow_snoc _ _ _ (by rw [← HL.out]; exact hj), grow_snoc _ _ _ (by rw [H2.out]; exact hj)]
                  exact this
            · go_simp
              refine hK _ _ ?_
              clear hK K
              refine genUv (RG B g s0 nf wr ⟨vb, vc, vw⟩ _ _ _ _ _ _ _) (RG.alloc22 H) ?_
              clear H
              intro wz H
              refine wpAnyU_ready (CG.of (Hmk.out _ H.box)) (rs := [16]) (by kernel_rfl) (by simp) ?_
              refine (AllReadyU.cons rfl (fun K hK => ?_) AllReadyU.nil)
              refine step_of rfl (app_intD (l1 := [(-1)]) 8 Try.underlying25 info_int rfl (.tmp 26) (.tmp 27) rfl rfl (one_row (H.one15 _ rfl).2) H.row.oc (Nat.le_trans H.bs H.sz) (by rw [Loc.out]; simp; omega) (by rw [Loc.out]; unfold maxLen; simp; omega) ?_)
              intro v1 W1 ho1 hg1 hr1
              refine hK _ _ ?_
              clear hK K
              replace H := RG.app16 H rfl ho1 hg1 hr1
              obtain ⟨a1, c1, e1⟩ := ho1.form
              generalize (List.length _) = m1 at e1
              subst e1
              clear ho1 hg1 hr1
              refine wpAnyU_ready (CG.of (Hmk.out _ H.box)) (rs := [23]) (by kernel_rfl) (by simp) ?_
              refine (AllReadyU.cons rfl (fun K hK => ?_) AllReadyU.nil)
              refine step_of rfl (app_intD (l1 := [(-1)]) 8 Try.underlying25 info_int rfl (.tmp 33) (.tmp 34) rfl rfl (one_row (H.one22 _ rfl).2) H.row.ow (Nat.le_trans H.bs H.sz) (by rw [Low.out]; simp; omega) (by rw [Low.out]; unfold maxLen; simp; omega) ?_)
              intro v1 W1 ho1 hg1 hr1
              refine hK _ _ ?_
              clear hK K
              replace H := RG.app23 H rfl ho1 hg1 hr1
              obtain ⟨a1, c1, e1⟩ := ho1.form
              generalize (List.length _) = m1 at e1
              subst e1
              clear ho1 hg1 hr1
              have hE := HA.out.gB
              obtain ⟨d0, d1, d2, _, fr⟩ := H.box.cells
              have f0 := fr 0
              clear fr d1 d2
              refine wpAnyU_takeP (i := 24) (v := _) rfl (by decide) (by kernel_rfl) (by kernel_rfl) (by kernel_rfl) (fun _ _ _ h => h) (Or.inl ⟨by rfl, fun w _ => by (go_simp; first | exact ⟨rfl, rfl⟩ | rfl)⟩) (by go_simp <;> with_reducible rfl) ?_
              refine wpAnyU_takeP (i := 25) (v := _) rfl (by decide) (by kernel_rfl) (by kernel_rfl) (by kernel_rfl) (fun _ _ _ h => h) (Or.inl ⟨by rfl, fun w _ => by (go_simp; first | exact ⟨rfl, rfl⟩ | rfl)⟩) (by go_simp <;> with_reducible rfl) ?_
              refine wpAnyU_takeP (i := 26) (v := _) rfl (by decide) (by kernel_rfl) (by kernel_rfl) (by kernel_rfl) (fun _ _ _ h => h) (Or.inl ⟨by rfl, fun w _ => by (go_simp; first | exact ⟨rfl, rfl⟩ | rfl)⟩) (by go_simp <;> with_reducible rfl) ?_
              refine wpAnyU_ready (CG.of (Hmk.out _ H.box)) (rs := [27]) (by kernel_rfl) (by simp) ?_
              refine (AllReadyU.cons rfl (fun K hK => ?_) AllReadyU.nil)
              go_simp
              refine hK _ _ ?_
              clear hK K
              refine genUv (R2 B g nf wr ⟨vb, vc, vw⟩ _ _ _ _ _) (H.st0 hE).st1 ?_
              clear H f0 d0
              intro wz H
              obtain ⟨d0, d1, d2, _, fr⟩ := H.box.cells
              have f1 := fr 1
              dsimp only at d1
              clear fr d0 d2
              refine wpAnyU_takeP (i := 28) (v := _) rfl (by decide) (by kernel_rfl) (by kernel_rfl) (by kernel_rfl) (fun _ _ _ h => h) (Or.inl ⟨by rfl, fun w _ => by (go_simp; first | exact ⟨rfl, rfl⟩ | rfl)⟩) (by go_simp <;> with_reducible rfl) ?_
              refine wpAnyU_takeP (i := 29) (v := _) rfl (by decide) (by kernel_rfl) (by kernel_rfl) (by kernel_rfl) (fun _ _ _ h => h) (Or.inl ⟨by rfl, fun w _ => by (go_simp; first | exact ⟨rfl, rfl⟩ | rfl)⟩) (by go_simp <;> with_reducible rfl) ?_
              refine wpAnyU_takeP (i := 30) (v := _) rfl (by decide) (by kernel_rfl) (by kernel_rfl) (by kernel_rfl) (fun _ _ _ h => h) (Or.inl ⟨by rfl, fun w _ => by (go_simp; first | exact ⟨rfl, rfl⟩ | rfl)⟩) (by go_simp <;> with_reducible rfl) ?_
              refine wpAnyU_readyV (by kernel_rfl) (rs := [31]) (by kernel_rfl) (by simp) ?_
              refine (AllReadyU.cons rfl (fun K hK => ?_) AllReadyU.nil)
              go_simp
              refine hK _ _ ?_
              clear hK K
              refine genUv (R2 B g nf wr ⟨vb, vc, vw⟩ _ _ _ _ _) H.st2 ?_
              clear H f1 d1
              intro wz H
              obtain ⟨d0, d1, d2, _, fr⟩ := H.box.cells
              have f2 := fr 2
              dsimp only at d2
              clear fr d0 d1
              refine wpAnyU_takeP (i := 32) (v := _) rfl (by decide) (by kernel_rfl) (by kernel_rfl) (by kernel_rfl) (fun _ _ _ h => h) (Or.inl ⟨by rfl, fun w _ => by (go_simp; first | exact ⟨rfl, rfl⟩ | rfl)⟩) (by go_simp <;> with_reducible rfl) ?_
              refine wpAnyU_takeP (i := 33) (v := _) rfl (by decide) (by kernel_rfl) (by kernel_rfl) (by kernel_rfl) (fun _ _ _ h => h) (Or.inl ⟨by rfl, fun w _ => by (go_simp; first | exact ⟨rfl, rfl⟩ | rfl)⟩) (by go_simp <;> with_reducible rfl) ?_
              refine wpAnyU_takeP (i := 34) (v := _) rfl (by decide) (by kernel_rfl) (by kernel_rfl) (by kernel_rfl) (fun _ _ _ h => h) (Or.inl ⟨by rfl, fun w _ => by (go_simp; first | exact ⟨rfl, rfl⟩ | rfl)⟩) (by go_simp <;> with_reducible rfl) ?_
              refine wpAnyU_readyV (by kernel_rfl) (rs := [35]) (by kernel_rfl) (by simp) ?_
              refine (AllReadyU.cons rfl (fun K hK => ?_) AllReadyU.nil)
              go_simp
              refine hK _ _ ?_
              clear hK K
              refine genUv (R2 B g nf wr ⟨vb, vc, vw⟩ _ _ _ _ _) H.st3 ?_
              clear H f2 d2
              intro wz H
              refine wpAnyU_done (by kernel_rfl) (by kernel_rfl) (by go_simp <;> with_reducible rfl) ?_
              have H := Lib.hid H
              repeat' (first | go_values | go_skip | go_guarded | go_step | go_upon)
              go_roundg (gk - 1)
              case measure => omega
              case rel =>
                refine ⟨j + 1, _, by omega, by omega, Lib.hid ⟨?_, ?_, hE⟩, Lib.hid (HS.out.trans H.out.st)⟩
                · have := H.out.box
                  rw [Hnf.out] at this
                  exact this
                · have := H.out.row
                  unfold TM.grow
                  dsimp only
                  rw [grow_snoc _ _ _ (by rw [H1.out]; exact hj), grow_snoc _ _ _ (by rw [← HL.out]; exact hj), grow_snoc _ _ _ (by rw [H2.out]; exact hj)]
                  exact this
          · go_simp
            refine hK _ _ ?_
            clear hK K
            refine genUv (RG B g s0 nf wr ⟨vb, vc, vw⟩ _ _ _ _ _ _ _) (RG.alloc22 H) ?_
            clear H
            intro wz H
            refine wpAnyU_ready (CG.of (Hmk.out _ H.box)) (rs := [9]) (by kernel_rfl) (by simp) ?_
            refine (AllReadyU.cons rfl (fun K hK => ?_) AllReadyU.nil)
            refine step_of rfl (app_intD (l1 := [0]) 8 Try.underlying25 info_int rfl (.tmp 19) (.tmp 20) rfl rfl (one_row (H.one8 _ rfl).2) H.row.ob (Nat.le_trans H.bs H.sz) (by rw [Lob.out]; simp; omega) (by rw [Lob.out]; unfold maxLen; simp; omega) ?_)
            intro v1 W1 ho1 hg1 hr1
            refine hK _ _ ?_
            clear hK K
            replace H := RG.app9 H rfl ho1 hg1 hr1
            obtain ⟨a1, c1, e1⟩ := ho1.form
            generalize (List.length _) = m1 at e1
            subst e1
            clear ho1 hg1 hr1
            refine wpAnyU_ready (CG.of (Hmk.out _ H.box)) (rs := [16]) (by kernel_rfl) (by simp) ?_
            refine (AllReadyU.cons rfl (fun K hK => ?_) AllReadyU.nil)
            refine step_of rfl (app_intD (l1 := [(-1)]) 8 Try.underlying25 info_int rfl (.tmp 26) (.tmp 27) rfl rfl (one_row (H.one15 _ rfl).2) H.row.oc (Nat.le_trans H.bs H.sz) (by rw [Loc.out]; simp; omega) (by rw [Loc.out]; unfold maxLen; simp; omega) ?_)
            intro v1 W1 ho1 hg1 hr1
            refine hK _ _ ?_
            clear hK K
            replace H := RG.app16 H rfl ho1 hg1 hr1
            obtain ⟨a1, c1, e1⟩ := ho1.form
            generalize (List.length _) = m1 at e1
            subst e1
            clear ho1 hg1 hr1
            refine wpAnyU_ready (CG.of (Hmk.out _ H.box)) (rs := [23]) (by kernel_rfl) (by simp) ?_
            refine (AllReadyU.cons rfl (fun K hK => ?_) AllReadyU.nil)
            refine step_of rfl (app_intD (l1 := [(-1)]) 8 Try.underlying25 info_int rfl (.tmp 33) (.tmp 34) rfl rfl (one_row (H.one22 _ rfl).2) H.row.ow (Nat.le_trans H.bs H.sz) (by rw [Low.out]; simp; omega) (by rw [Low.out]; unfold maxLen; simp; omega) ?_)
            intro v1 W1 ho1 hg1 hr1
            refine hK _ _ ?_
            clear hK K
            replace H := RG.app23 H rfl ho1 hg1 hr1
            obtain ⟨a1, c1, e1⟩ := ho1.form
            generalize (List.length _) = m1 at e1
            subst e1
            clear ho1 hg1 hr1
            have hE := HA.out.gB
            obtain ⟨d0, d1, d2, _, fr⟩ := H.box.cells
            have f0 := fr 0
            clear fr d1 d2
            refine wpAnyU_takeP (i := 24) (v := _) rfl (by decide) (by kernel_rfl) (by kernel_rfl) (by kernel_rfl) (fun _ _ _ h => h) (Or.inl ⟨by rfl, fun w _ => by (go_simp; first | exact ⟨rfl, rfl⟩ | rfl)⟩) (by go_simp <;> with_reducible rfl) ?_
            refine wpAnyU_takeP (i := 25) (v := _) rfl (by decide) (by kernel_rfl) (by kernel_rfl) (by kernel_rfl) (fun _ _ _ h => h) (Or.inl ⟨by rfl, fun w _ => by (go_simp; first | exact ⟨rfl, rfl⟩ | rfl)⟩) (by go_simp <;> with_reducible rfl) ?_
            refine wpAnyU_takeP (i := 26) (v := _) rfl (by decide) (by kernel_rfl) (by kernel_rfl) (by kernel_rfl) (fun _ _ _ h => h) (Or.inl ⟨by rfl, fun w _ => by (go_simp; first | exact ⟨rfl, rfl⟩ | rfl)⟩) (by go_simp <;> with_reducible rfl) ?_
            refine wpAnyU_ready (CG.of (Hmk.out _ H.box)) (rs := [27]) (by kernel_rfl) (by simp) ?_
            refine (AllReadyU.cons rfl (fun K hK => ?_) AllReadyU.nil)
            go_simp
            refine hK _ _ ?_
            clear hK K
            refine genUv (R2 B g nf wr ⟨vb, vc, vw⟩ _ _ _ _ _) (H.st0 hE).st1 ?_
            clear H f0 d0
            intro wz H
            obtain ⟨d0, d1, d2, _, fr⟩ := H.box.cells
            have f1 := fr 1
            dsimp only at d1
            clear fr d0 d2
            refine wpAnyU_takeP (i := 28) (v := _) rfl (by decide) (by kernel_rfl) (by kernel_rfl) (by kernel_rfl) (fun _ _ _ h => h) (Or.inl ⟨by rfl, fun w _ => by (go_simp; first | exact ⟨rfl, rfl⟩ | rfl)⟩) (by go_simp <;> with_reducible rfl) ?_
            refine wpAnyU_takeP (i := 29) (v := _) rfl (by decide) (by kernel_rfl) (by kernel_rfl) (by kernel_rfl) (fun _ _ _ h => h) (Or.inl ⟨by rfl, fun w _ => by (go_simp; first | exact ⟨rfl, rfl⟩ | rfl)⟩) (by go_simp <;> with_reducible rfl) ?_
            refine wpAnyU_takeP (i := 30) (v := _) rfl (by decide) (by kernel_rfl) (by kernel_rfl) (by kernel_rfl) (fun _ _ _ h => h) (Or.inl ⟨by rfl, fun w _ => by (go_simp; first | exact ⟨rfl, rfl⟩ | rfl)⟩) (by go_simp <;> with_reducible rfl) ?_
            refine wpAnyU_readyV (by kernel_rfl) (rs := [31]) (by kernel_rfl) (by simp) ?_
            refine (AllReadyU.cons rfl (fun K hK => ?_) AllReadyU.nil)
            go_simp
            refine hK _ _ ?_
            clear hK K
            refine genUv (R2 B g nf wr ⟨vb, vc, vw⟩ _ _ _ _ _) H.st2 ?_
            clear H f1 d1
            intro wz H
            obtain ⟨d0, d1, d2, _, fr⟩ := H.box.cells
            have f2 := fr 2
            dsimp only at d2
            clear fr d0 d1
            refine wpAnyU_takeP (i := 32) (v := _) rfl (by decide) (by kernel_rfl) (by kernel_rfl) (by kernel_rfl) (fun _ _ _ h => h) (Or.inl ⟨by rfl, fun w _ => by (go_simp; first | exact ⟨rfl, rfl⟩ | rfl)⟩) (by go_simp <;> with_reducible rfl) ?_
            refine wpAnyU_takeP (i := 33) (v := _) rfl (by decide) (by kernel_rfl) (by kernel_rfl) (by kernel_rfl) (fun _ _ _ h => h) (Or.inl ⟨by rfl, fun w _ => by (go_simp; first | exact ⟨rfl, rfl⟩ | rfl)⟩) (by go_simp <;> with_reducible rfl) ?_
            refine wpAnyU_takeP (i := 34) (v := _) rfl (by decide) (by kernel_rfl) (by kernel_rfl) (by kernel_rfl) (fun _ _ _ h => h) (Or.inl ⟨by rfl, fun w _ => by (go_simp; first | exact ⟨rfl, rfl⟩ | rfl)⟩) (by go_simp <;> with_reducible rfl) ?_
            refine wpAnyU_readyV (by kernel_rfl) (rs := [35]) (by kernel_rfl) (by simp) ?_
            refine (AllReadyU.cons rfl (fun K hK => ?_) AllReadyU.nil)
            go_simp
            refine hK _ _ ?_
            clear hK K
            refine genUv (R2 B g nf wr ⟨vb, vc, vw⟩ _ _ _ _ _) H.st3 ?_
            clear H f2 d2
            intro wz H
            refine wpAnyU_done (by kernel_rfl) (by kernel_rfl) (by go_simp <;> with_reducible rfl) ?_
            have H := Lib.hid H
            repeat' (first | go_values | go_skip | go_guarded | go_step | go_upon)
            go_roundg (gk - 1)
            case measure => omega
            case rel =>
              refine ⟨j + 1, _, by omega, by omega, Lib.hid ⟨?_, ?_, hE⟩, Lib.hid (HS.out.trans H.out.st)⟩
              · have := H.out.box
                rw [Hnf.out] at this
                exact this
              · have := H.out.row
                unfold TM.grow
                dsimp only
                rw [grow_snoc _ _ _ (by rw [H1.out]; exact hj), grow_snoc _ _ _ (by rw [← HL.out]; exact hj), grow_snoc _ _ _ (by rw [H2.out]; exact hj)]
                exact this
        · go_simp
          refine hK _ _ ?_
          clear hK K
          refine genUv (RG B g s0 nf wr ⟨vb, vc, vw⟩ _ _ _ _ _ _ _) (RG.alloc22 H) ?_
          clear H
          intro wz H
          refine wpAnyU_ready (CG.of (Hmk.out _ H.box)) (rs := [9, 15]) (by kernel_rfl) (by simp) ?_
          refine (AllReadyU.cons rfl (fun K hK => ?_) (AllReadyU.cons rfl (fun K hK => ?_) AllReadyU.nil))
          · refine step_of rfl (app_intD (l1 := [0]) 8 Try.underlying25 info_int rfl (.tmp 19) (.tmp 20) rfl rfl (one_row (H.one8 _ rfl).2) H.row.ob (Nat.le_trans H.bs H.sz) (by rw [Lob.out]; simp; omega) (by rw [Lob.out]; unfold maxLen; simp; omega) ?_)
            intro v1 W1 ho1 hg1 hr1
            refine hK _ _ ?_
            clear hK K
            replace H := RG.app9 H rfl ho1 hg1 hr1
            obtain ⟨a1, c1, e1⟩ := ho1.form
            generalize (List.length _) = m1 at e1
            subst e1
            clear ho1 hg1 hr1
            refine wpAnyU_ready (CG.of (Hmk.out _ H.box)) (rs := [15]) (by kernel_rfl) (by simp) ?_
            refine (AllReadyU.cons rfl (fun K hK => ?_) AllReadyU.nil)
            go_simp
            refine hK _ _ ?_
            clear hK K
            refine genUv (RG B g s0 nf wr ⟨vb, vc, vw⟩ _ _ _ _ _ _ _) (RG.alloc15 H) ?_
            clear H
            intro wz H
            refine wpAnyU_ready (CG.of (Hmk.out _ H.box)) (rs := [16]) (by kernel_rfl) (by simp) ?_
            refine (AllReadyU.cons rfl (fun K hK => ?_) AllReadyU.nil)
            refine step_of rfl (app_intD (l1 := [(-1)]) 8 Try.underlying25 info_int rfl (.tmp 26) (.tmp 27) rfl rfl (one_row (H.one15 _ rfl).2) H.row.oc (Nat.le_trans H.bs H.sz) (by rw [Loc.out]; simp; omega) (by rw [Loc.out]; unfold maxLen; simp; omega) ?_)
            intro v1 W1 ho1 hg1 hr1
            refine hK _ _ ?_
            clear hK K
            replace H := RG.app16 H rfl ho1 hg1 hr1
            obtain ⟨a1, c1, e1⟩ := ho1.form
            generalize (List.length _) = m1 at e1
            subst e1
            clear ho1 hg1 hr1
            refine wpAnyU_ready (CG.of (Hmk.out _ H.box)) (rs := [23]) (by kernel_rfl) (by simp) ?_
            refine (AllReadyU.cons rfl (fun K hK => ?_) AllReadyU.nil)
            refine step_of rfl (app_intD (l1 := [(-1)]) 8 Try.underlying25 info_int rfl (.tmp 33) (.tmp 34) rfl rfl (one_row (H.one22 _ rfl).2) H.row.ow (Nat.le_trans H.bs H.sz) (by rw [Low.out]; simp; omega) (by rw [Low.out]; unfold maxLen; simp; omega) ?_)
            intro v1 W1 ho1 hg1 hr1
            refine hK _ _ ?_
            clear hK K
            replace H := RG.app23 H rfl ho1 hg1 hr1
            obtain ⟨a1, c1, e1⟩ := ho1.form
            generalize (List.length _) = m1 at e1
            subst e1
            clear ho1 hg1 hr1
            have hE := HA.out.gB
            obtain ⟨d0, d1, d2, _, fr⟩ := H.box.cells
            have f0 := fr 0
            clear fr d1 d2
            refine wpAnyU_takeP (i := 24) (v := _) rfl (by decide) (by kernel_rfl) (by kernel_rfl) (by kernel_rfl) (fun _ _ _ h => h) (Or.inl ⟨by rfl, fun w _ => by (go_simp; first | exact ⟨rfl, rfl⟩ | rfl)⟩) (by go_simp <;> with_reducible rfl) ?_
            refine wpAnyU_takeP (i := 25) (v := _) rfl (by decide) (by kernel_rfl) (by kernel_rfl) (by kernel_rfl) (fun _ _ _ h => h) (Or.inl ⟨by rfl, fun w _ => by (go_simp; first | exact ⟨rfl, rfl⟩ | rfl)⟩) (by go_simp <;> with_reducible rfl) ?_
            refine wpAnyU_takeP (i := 26) (v := _) rfl (by decide) (by kernel_rfl) (by kernel_rfl) (by kernel_rfl) (fun _ _ _ h => h) (Or.inl ⟨by rfl, fun w _ => by (go_simp; first | exact ⟨rfl, rfl⟩ | rfl)⟩) (by go_simp <;> with_reducible rfl) ?_
            refine wpAnyU_ready (CG.of (Hmk.out _ H.box)) (rs := [27]) (by kernel_rfl) (by simp) ?_
            refine (AllReadyU.cons rfl (fun K hK => ?_) AllReadyU.nil)
            go_simp
            refine hK _ _ ?_
            clear hK K
            refine genUv (R2 B g nf wr ⟨vb, vc, vw⟩ _ _ _ _ _) (H.st0 hE).st1 ?_
            clear H f0 d0
            intro wz H
            obtain ⟨d0, d1, d2, _, fr⟩ := H.box.cells
            have f1 := fr 1
            dsimp only at d1
            clear fr d0 d2
            refine wpAnyU_takeP (i := 28) (v := _) rfl (by decide) (by kernel_rfl) (by kernel_rfl) (by kernel_rfl) (fun _ _ _ h => h) (Or.inl ⟨by rfl, fun w _ => by (go_simp; first | exact ⟨rfl, rfl⟩ | rfl)⟩) (by go_simp <;> with_reducible rfl) ?_
            refine wpAnyU_takeP (i := 29) (v := _) rfl (by decide) (by kernel_rfl) (by kernel_rfl) (by kernel_rfl) (fun _ _ _ h => h) (Or.inl ⟨by rfl, fun w _ => by (go_simp; first | exact ⟨rfl, rfl⟩ | rfl)⟩) (by go_simp <;> with_reducible rfl) ?_
            refine wpAnyU_takeP (i := 30) (v := _) rfl (by decide) (by kernel_rfl) (by kernel_rfl) (by kernel_rfl) (fun _ _ _ h => h) (Or.inl ⟨by rfl, fun w _ => by (go_simp; first | exact ⟨rfl, rfl⟩ | rfl)⟩) (by go_simp <;> with_reducible rfl) ?_
            refine wpAnyU_readyV (by kernel_rfl) (rs := [31]) (by kernel_rfl) (by simp) ?_
            refine (AllReadyU.cons rfl (fun K hK => ?_) AllReadyU.nil)
            go_simp
            refine hK _ _ ?_
            clear hK K
            refine genUv (R2 B g nf wr ⟨vb, vc, vw⟩ _ _ _ _ _) H.st2 ?_
            clear H f1 d1
            intro wz H
            obtain ⟨d0, d1, d2, _, fr⟩ := H.box.cells
            have f2 := fr 2
            dsimp only at d2
            clear fr d0 d1
            refine wpAnyU_takeP (i := 32) (v := _) rfl (by decide) (by kernel_rfl) (by kernel_rfl) (by kernel_rfl) (fun _ _ _ h => h) (Or.inl ⟨by rfl, fun w _ => by (go_simp; first | exact ⟨rfl, rfl⟩ | rfl)⟩) (by go_simp <;> with_reducible rfl) ?_
            refine wpAnyU_takeP (i := 33) (v := _) rfl (by decide) (by kernel_rfl) (by kernel_rfl) (by kernel_rfl) (fun _ _ _ h => h) (Or.inl ⟨by rfl, fun w _ => by (go_simp; first | exact ⟨rfl, rfl⟩ | rfl)⟩) (by go_simp <;> with_reducible rfl) ?_
            refine wpAnyU_takeP (i := 34) (v := _) rfl (by decide) (by kernel_rfl) (by kernel_rfl) (by kernel_rfl) (fun _ _ _ h => h) (Or.inl ⟨by rfl, fun w _ => by (go_simp; first | exact ⟨rfl, rfl⟩ | rfl)⟩) (by go_simp <;> with_reducible rfl) ?_
            refine wpAnyU_readyV (by kernel_rfl) (rs := [35]) (by kernel_rfl) (by simp) ?_
            refine (AllReadyU.cons rfl (fun K hK => ?_) AllReadyU.nil)
            go_simp
            refine hK _ _ ?_
            clear hK K
            refine genUv (R2 B g nf wr ⟨vb, vc, vw⟩ _ _ _ _ _) H.st3 ?_
            clear H f2 d2
            intro wz H
            refine wpAnyU_done (by kernel_rfl) (by kernel_rfl) (by go_simp <;> with_reducible rfl) ?_
            have H := Lib.hid H
            repeat' (first | go_values | go_skip | go_guarded | go_step | go_upon)
            go_roundg (gk - 1)
            case measure => omega
            case rel =>
              refine ⟨j + 1, _, by omega, by omega, Lib.hid ⟨?_, ?_, hE⟩, Lib.hid (HS.out.trans H.out.st)⟩
              · have := H.out.box
                rw [Hnf.out] at this
                exact this
              · have := H.out.row
                unfold TM.grow
                dsimp only
                rw [grow_snoc _ _ _ (by rw [H1.out]; exact hj), grow_snoc _ _ _ (by rw [← HL.out]; exact hj), grow_snoc _ _ _ (by rw [H2.out]; exact hj)]
                exact this
          · go_simp
            refine hK _ _ ?_
            clear hK K
            refine genUv (RG B g s0 nf wr ⟨vb, vc, vw⟩ _ _ _ _ _ _ _) (RG.alloc15 H) ?_
            clear H
            intro wz H
            refine wpAnyU_ready (CG.of (Hmk.out _ H.box)) (rs := [9]) (by kernel_rfl) (by simp) ?_
            refine (AllReadyU.cons rfl (fun K hK => ?_) AllReadyU.nil)
            refine step_of rfl (app_intD (l1 := [0]) 8 Try.underlying25 info_int rfl (.tmp 19) (.tmp 20) rfl rfl (one_row (H.one8 _ rfl).2) H.row.ob (Nat.le_trans H.bs H.sz) (by rw [Lob.out]; simp; omega) (by rw [Lob.out]; unfold maxLen; simp; omega) ?_)
            intro v1 W1 ho1 hg1 hr1
            refine hK _ _ ?_
            clear hK K
            replace H := RG.app9 H rfl ho1 hg1 hr1
            obtain ⟨a1, c1, e1⟩ := ho1.form
            generalize (List.length _) = m1 at e1
            subst e1
            clear ho1 hg1 hr1
            refine wpAnyU_ready (CG.of (Hmk.out _ H.box)) (rs := [16]) (by kernel_rfl) (by simp) ?_
            refine (AllReadyU.cons rfl (fun K hK => ?_) AllReadyU.nil)
            refine step_of rfl (app_intD (l1 := [(-1)]) 8 Try.underlying25 info_int rfl (.tmp 26) (.tmp 27) rfl rfl (one_row (H.one15 _ rfl).2) H.row.oc (Nat.le_trans H.bs H.sz) (by rw [Loc.out]; simp; omega) (by rw [Loc.out]; unfold maxLen; simp; omega) ?_)
            intro v1 W1 ho1 hg1 hr1
            refine hK _ _ ?_
            clear hK K
            replace H := RG.app16 H rfl ho1 hg1 hr1
            obtain ⟨a1, c1, e1⟩ := ho1.form
            generalize (List.length _) = m1 at e1
            subst e1
            clear ho1 hg1 hr1
            refine wpAnyU_ready (CG.of (Hmk.out _ H.box)) (rs := [23]) (by kernel_rfl) (by simp) ?_
            refine (AllReadyU.cons rfl (fun K hK => ?_) AllReadyU.nil)
            refine step_of rfl (app_intD (l1 := [(-1)]) 8 Try.underlying25 info_int rfl (.tmp 33) (.tmp 34) rfl rfl (one_row (H.one22 _ rfl).2) H.row.ow (Nat.le_trans H.bs H.sz) (by rw [Low.out]; simp; omega) (by rw [Low.out]; unfold maxLen; simp; omega) ?_)
            intro v1 W1 ho1 hg1 hr1
            refine hK _ _ ?_
            clear hK K
            replace H := RG.app23 H rfl ho1 hg1 hr1
            obtain ⟨a1, c1, e1⟩ := ho1.form
            generalize (List.length _) = m1 at e1
            subst e1
            clear ho1 hg1 hr1
            have hE := HA.out.gB
            obtain ⟨d0, d1, d2, _, fr⟩ := H.box.cells
            have f0 := fr 0
            clear fr d1 d2
            refine wpAnyU_takeP (i := 24) (v := _) rfl (by decide) (by kernel_rfl) (by kernel_rfl) (by kernel_rfl) (fun _ _ _ h => h) (Or.inl ⟨by rfl, fun w _ => by (go_simp; first | exact ⟨rfl, rfl⟩ | rfl)⟩) (by go_simp <;> with_reducible rfl) ?_
            refine wpAnyU_takeP (i := 25) (v := _) rfl (by decide) (by kernel_rfl) (by kernel_rfl) (by kernel_rfl) (fun _ _ _ h => h) (Or.inl ⟨by rfl, fun w _ => by (go_simp; first | exact ⟨rfl, rfl⟩ | rfl)⟩) (by go_simp <;> with_reducible rfl) ?_
            refine wpAnyU_takeP (i := 26) (v := _) rfl (by decide) (by kernel_rfl) (by kernel_rfl) (by kernel_rfl) (fun _ _ _ h => h) (Or.inl ⟨by rfl, fun w _ => by (go_simp; first | exact ⟨rfl, rfl⟩ | rfl)⟩) (by go_simp <;> with_reducible rfl) ?_
            refine wpAnyU_ready (CG.of (Hmk.out _ H.box)) (rs := [27]) (by kernel_rfl) (by simp) ?_
            refine (AllReadyU.cons rfl (fun K hK => ?_) AllReadyU.nil)
            go_simp
            refine hK _ _ ?_
            clear hK K
            refine genUv (R2 B g nf wr ⟨vb, vc, vw⟩ _ _ _ _ _) (H.st0 hE).st1 ?_
            clear H f0 d0
            intro wz H
            obtain ⟨d0, d1, d2, _, fr⟩ := H.box.cells
            have f1 := fr 1
            dsimp only at d1
            clear fr d0 d2
            refine wpAnyU_takeP (i := 28) (v := _) rfl (by decide) (by kernel_rfl) (by kernel_rfl) (by kernel_rfl) (fun _ _ _ h => h) (Or.inl ⟨by rfl, fun w _ => by (go_simp; first | exact ⟨rfl, rfl⟩ | rfl)⟩) (by go_simp <;> with_reducible rfl) ?_
            refine wpAnyU_takeP (i := 29) (v := _) rfl (by decide) (by kernel_rfl) (by kernel_rfl) (by kernel_rfl) (fun _ _ _ h => h) (Or.inl ⟨by rfl, fun w _ => by (go_simp; first | exact ⟨rfl, rfl⟩ | rfl)⟩) (by go_simp <;> with_reducible rfl) ?_
            refine wpAnyU_takeP (i := 30) (v := _) rfl (by decide) (by kernel_rfl) (by kernel_rfl) (by kernel_rfl) (fun _ _ _ h => h) (Or.inl ⟨by rfl, fun w _ => by (go_simp; first | exact ⟨rfl, rfl⟩ | rfl)⟩) (by go_simp <;> with_reducible rfl) ?_
            refine wpAnyU_readyV (by kernel_rfl) (rs := [31]) (by kernel_rfl) (by simp) ?_
            refine (AllReadyU.cons rfl (fun K hK => ?_) AllReadyU.nil)
            go_simp
            refine hK _ _ ?_
            clear hK K
            refine genUv (R2 B g nf wr ⟨vb, vc, vw⟩ _ _ _ _ _) H.st2 ?_
            clear H f1 d1
            intro wz H
            obtain ⟨d0, d1, d2, _, fr⟩ := H.box.cells
            have f2 := fr 2
            dsimp only at d2
            clear fr d0 d1
            refine wpAnyU_takeP (i := 32) (v := _) rfl (by decide) (by kernel_rfl) (by kernel_rfl) (by kernel_rfl) (fun _ _ _ h => h) (Or.inl ⟨by rfl, fun w _ => by (go_simp; first | exact ⟨rfl, rfl⟩ | rfl)⟩) (by go_simp <;> with_reducible rfl) ?_
            refine wpAnyU_takeP (i := 33) (v := _) rfl (by decide) (by kernel_rfl) (by kernel_rfl) (by kernel_rfl) (fun _ _ _ h => h) (Or.inl ⟨by rfl, fun w _ => by (go_simp; first | exact ⟨rfl, rfl⟩ | rfl)⟩) (by go_simp <;> with_reducible rfl) ?_
            refine wpAnyU_takeP (i := 34) (v := _) rfl (by decide) (by kernel_rfl) (by kernel_rfl) (by kernel_rfl) (fun _ _ _ h => h) (Or.inl ⟨by rfl, fun w _ => by (go_simp; first | exact ⟨rfl, rfl⟩ | rfl)⟩) (by go_simp <;> with_reducible rfl) ?_
            refine wpAnyU_readyV (by kernel_rfl) (rs := [35]) (by kernel_rfl) (by simp) ?_
            refine (AllReadyU.cons rfl (fun K hK => ?_) AllReadyU.nil)
            go_simp
            refine hK _ _ ?_
            clear hK K
            refine genUv (R2 B g nf wr ⟨vb, vc, vw⟩ _ _ _ _ _) H.st3 ?_
            clear H f2 d2
            intro wz H
            refine wpAnyU_done (by kernel_rfl) (by kernel_rfl) (by go_simp <;> with_reducible rfl) ?_
            have H := Lib.hid H
            repeat' (first | go_values | go_skip | go_guarded | go_step | go_upon)
            go_roundg (gk - 1)
            case measure => omega
            case rel =>
              refine ⟨j + 1, _, by omega, by omega, Lib.hid ⟨?_, ?_, hE⟩, Lib.hid (HS.out.trans H.out.st)⟩
              · have := H.out.box
                rw [Hnf.out] at this
                exact this
              · have := H.out.row
                unfold TM.grow
                dsimp only
                rw [grow_snoc _ _ _ (by rw [H1.out]; exact hj), grow_snoc _ _ _ (by rw [← HL.out]; exact hj), grow_snoc _ _ _ (by rw [H2.out]; exact hj)]
                exact this
      · go_simp
        refine hK _ _ ?_
        clear hK K
        refine genUv (RG B g s0 nf wr ⟨vb, vc, vw⟩ _ _ _ _ _ _ _) (RG.alloc15 H) ?_
        clear H
        intro wz H
        refine wpAnyU_ready (CG.of (Hmk.out _ H.box)) (rs := [8, 22]) (by kernel_rfl) (by simp) ?_
        refine (AllReadyU.cons rfl (fun K hK => ?_) (AllReadyU.cons rfl (fun K hK => ?_) AllReadyU.nil))
        · go_simp
          refine hK _ _ ?_
          clear hK K
          refine genUv (RG B g s0 nf wr ⟨vb, vc, vw⟩ _ _ _ _ _ _ _) (RG.alloc8 H) ?_
          clear H
          intro wz H
          refine wpAnyU_ready (CG.of (Hmk.out _ H.box)) (rs := [9, 22]) (by kernel_rfl) (by simp) ?_
          refine (AllReadyU.cons rfl (fun K hK => ?_) (AllReadyU.cons rfl (fun K hK => ?_) AllReadyU.nil))
          · refine step_of rfl (app_intD (l1 := [0]) 8 Try.underlying25 info_int rfl (.tmp 19) (.tmp 20) rfl rfl (one_row (H.one8 _ rfl).2) H.row.ob (Nat.le_trans H.bs H.sz) (by rw [Lob.out]; simp; omega) (by rw [Lob.out]; unfold maxLen; simp; omega) ?_)
            intro v1 W1 ho1 hg1 hr1
            refine hK _ _ ?_
            clear hK K
            replace H := RG.app9 H rfl ho1 hg1 hr1
            obtain ⟨a1, c1, e1⟩ := ho1.form
            generalize (List.length _) = m1 at e1
            subst e1
            clear ho1 hg1 hr1
            refine wpAnyU_ready (CG.of (Hmk.out _ H.box)) (rs := [16, 22]) (by kernel_rfl) (by simp) ?_
            refine (AllReadyU.cons rfl (fun K hK => ?_) (AllReadyU.cons rfl (fun K hK => ?_) AllReadyU.nil))
            · refine step_of rfl (app_intD (l1 := [(-1)]) 8 Try.underlying25 info_int rfl (.tmp 26) (.tmp 27) rfl rfl (one_row (H.one15 _ rfl).2) H.row.oc (Nat.le_trans H.bs H.sz) (by rw [Loc.out]; simp; omega) (by rw [Loc.out]; unfold maxLen; simp; omega) ?_)
              intro v1 W1 ho1 hg1 hr1
              refine hK _ _ ?_
              clear hK K
              replace H := RG.app16 H rfl ho1 hg1 hr1
              obtain ⟨a1, c1, e1⟩ := ho1.form
              generalize (List.length _) = m1 at e1
              subst e1
              clear ho1 hg1 hr1
              refine wpAnyU_ready (CG.of (Hmk.out _ H.box)) (rs := [22]) (by kernel_rfl) (by simp) ?_
              refine (AllReadyU.cons rfl (fun K hK => ?_) AllReadyU.nil)
              go_simp
              refine hK _ _ ?_
              clear hK K
              refine genUv (RG B g s0 nf wr ⟨vb, vc, vw⟩ _ _ _ _ _ _ _) (RG.alloc22 H) ?_
              clear H
              intro wz H
              refine wpAnyU_ready (CG.of (Hmk.out _ H.box)) (rs := [23]) (by kernel_rfl) (by simp) ?_
              refine (AllReadyU.cons rfl (fun K hK => ?_) AllReadyU.nil)
              refine step_of rfl (app_intD (l1 := [(-1)]) 8 Try.underlying25 info_int rfl (.tmp 33) (.tmp 34) rfl rfl (one_row (H.one22 _ rfl).2) H.row.ow (Nat.le_trans H.bs H.sz) (by rw [Low.out]; simp; omega) (by rw [Low.out]; unfold maxLen; simp; omega) ?_)
              intro v1 W1 ho1 hg1 hr1
              refine hK _ _ ?_
              clear hK K
              replace H := RG.app23 H rfl ho1 hg1 hr1
              obtain ⟨a1, c1, e1⟩ := ho1.form
              generalize (List.length _) = m1 at e1
              subst e1
              clear ho1 hg1 hr1
              have hE := HA.out.gB
              obtain ⟨d0, d1, d2, _, fr⟩ := H.box.cells
              have f0 := fr 0
              clear fr d1 d2
              refine wpAnyU_takeP (i := 24) (v := _) rfl (by decide) (by kernel_rfl) (by kernel_rfl) (by kernel_rfl) (fun _ _ _ h => h) (Or.inl ⟨by rfl, fun w _ => by (go_simp; first | exact ⟨rfl, rfl⟩ | rfl)⟩) (by go_simp <;> with_reducible rfl) ?_
              refine wpAnyU_takeP (i := 25) (v := _) rfl (by decide) (by kernel_rfl) (by kernel_rfl) (by kernel_rfl) (fun _ _ _ h => h) (Or.inl ⟨by rfl, fun w _ => by (go_simp; first | exact ⟨rfl, rfl⟩ | rfl)⟩) (by go_simp <;> with_reducible rfl) ?_
              refine wpAnyU_takeP (i := 26) (v := _) rfl (by decide) (by kernel_rfl) (by kernel_rfl) (by kernel_rfl) (fun _ _ _ h => h) (Or.inl ⟨by rfl, fun w _ => by (go_simp; first | exact ⟨rfl, rfl⟩ | rfl)⟩) (by go_simp <;> with_reducible rfl) ?_
              refine wpAnyU_ready (CG.of (Hmk.out _ H.box)) (rs := [27]) (by kernel_rfl) (by simp) ?_
              refine (AllReadyU.cons rfl (fun K hK => ?_) AllReadyU.nil)
              go_simp
              refine hK _ _ ?_
              clear hK K
              refine genUv (R2 B g nf wr ⟨vb, vc, vw⟩ _ _ _ _ _) (H.st0 hE).st1 ?_
              clear H f0 d0
              intro wz H
              obtain ⟨d0, d1, d2, _, fr⟩ := H.box.cells
              have f1 := fr 1
              dsimp only at d1
              clear fr d0 d2
              refine wpAnyU_takeP (i := 28) (v := _) rfl (by decide) (by kernel_rfl) (by kernel_rfl) (by kernel_rfl) (fun _ _ _ h => h) (Or.inl ⟨by rfl, fun w _ => by (go_simp; first | exact ⟨rfl, rfl⟩ | rfl)⟩) (by go_simp <;> with_reducible rfl) ?_
              refine wpAnyU_takeP (i := 29) (v := _) rfl (by decide) (by kernel_rfl) (by kernel_rfl) (by kernel_rfl) (fun _ _ _ h => h) (Or.inl ⟨by rfl, fun w _ => by (go_simp; first | exact ⟨rfl, rfl⟩ | rfl)⟩) (by go_simp <;> with_reducible rfl) ?_
              refine wpAnyU_takeP (i := 30) (v := _) rfl (by decide) (by kernel_rfl) (by kernel_rfl) (by kernel_rfl) (fun _ _ _ h => h) (Or.inl ⟨by rfl, fun w _ => by (go_simp; first | exact ⟨rfl, rfl⟩ | rfl)⟩) (by go_simp <;> with_reducible rfl) ?_
              refine wpAnyU_readyV (by kernel_rfl) (rs := [31]) (by kernel_rfl) (by simp) ?_
              refine (AllReadyU.cons rfl (fun K hK => ?_) AllReadyU.nil)
              go_simp
              refine hK _ _ ?_
              clear hK K
              refine genUv (R2 B g nf wr ⟨vb, vc, vw⟩ _ _ _ _ _) H.st2 ?_
              clear H f1 d1
              intro wz H
              obtain ⟨d0, d1, d2, _, fr⟩ := H.box.cells
              have f2 := fr 2
              dsimp only at d2
              clear fr d0 d1
              refine wpAnyU_takeP (i := 32) (v := _) rfl (by decide) (by kernel_rfl) (by kernel_rfl) (by kernel_rfl) (fun _ _ _ h => h) (Or.inl ⟨by rfl, fun w _ => by (go_simp; first | exact ⟨rfl, rfl⟩ | rfl)⟩) (by go_simp <;> with_reducible rfl) ?_
              refine wpAnyU_takeP (i := 33) (v := _) rfl (by decide) (by kernel_rfl) (by kernel_rfl) (by kernel_rfl) (fun _ _ _ h => h) (Or.inl ⟨by rfl, fun w _ => by (go_simp; first | exact ⟨rfl, rfl⟩ | rfl)⟩) (by go_simp <;> with_reducible rfl) ?_
              refine wpAnyU_takeP (i := 34) (v := _) rfl (by decide) (by kernel_rfl) (by kernel_rfl) (by kernel_rfl) (fun _ _ _ h => h) (Or.inl ⟨by rfl, fun w _ => by (go_simp; first | exact ⟨rfl, rfl⟩ | rfl)⟩) (by go_simp <;> with_reducible rfl) ?_
              refine wpAnyU_readyV (by kernel_rfl) (rs := [35]) (by kernel_rfl) (by simp) ?_
              refine (AllReadyU.cons rfl (fun K hK => ?_) AllReadyU.nil)
              go_simp
              refine hK _ _ ?_
              clear hK K
              refine genUv (R2 B g nf wr ⟨vb, vc, vw⟩ _ _ _ _ _) H.st3 ?_
              clear H f2 d2
              intro wz H
              refine wpAnyU_done (by kernel_rfl) (by kernel_rfl) (by go_simp <;> with_reducible rfl) ?_
              have H := Lib.hid H
              repeat' (first | go_values | go_skip | go_guarded | go_step | go_upon)
              go_roundg (gk - 1)
              case measure => omega
              case rel =>
                refine ⟨j + 1, _, by omega, by omega, Lib.hid ⟨?_, ?_, hE⟩, Lib.hid (HS.out.trans H.out.st)⟩
                · have := H.out.box
                  rw [Hnf.out] at this
                  exact this
                · have := H.out.row
                  unfold TM.grow
                  dsimp only
                  rw [grow_snoc _ _ _ (by rw [H1.out]; exact hj), grow_snoc _ _ _ (by rw [← HL.out]; exact hj), grow_snoc _ _ _ (by rw [H2.out]; exact hj)]
                  exact this
            · go_simp
              refine hK _ _ ?_
              clear hK K
              refine genUv (RG B g s0 nf wr ⟨vb, vc, vw⟩ _ _ _ _ _ _ _) (RG.alloc22 H) ?_
              clear H
              intro wz H
              refine wpAnyU_ready (CG.of (Hmk.out _ H.box)) (rs := [16]) (by kernel_rfl) (by simp) ?_
              refine (AllReadyU.cons rfl (fun K hK => ?_) AllReadyU.nil)
              refine step_of rfl (app_intD (l1 := [(-1)]) 8 Try.underlying25 info_int rfl (.tmp 26) (.tmp 27) rfl rfl (one_row (H.one15 _ rfl).2) H.row.oc (Nat.le_trans H.bs H.sz) (by rw [Loc.out]; simp; omega) (by rw [Loc.out]; unfold maxLen; simp; omega) ?_)
              intro v1 W1 ho1 hg1 hr1
              refine hK _ _ ?_
              clear hK K
              replace H := RG.app16 H rfl ho1 hg1 hr1
              obtain ⟨a1, c1, e1⟩ := ho1.form
              generalize (List.length _) = m1 at e1
              subst e1
              clear ho1 hg1 hr1
              refine wpAnyU_ready (CG.of (Hmk.out _ H.box)) (rs := [23]) (by kernel_rfl) (by simp) ?_
              refine (AllReadyU.cons rfl (fun K hK => ?_) AllReadyU.nil)
              refine step_of rfl (app_intD (l1 := [(-1)]) 8 Try.underlying25 info_int rfl (.tmp 33) (.tmp 34) rfl rfl (one_row (H.one22 _ rfl).2) H.row.ow (Nat.le_trans H.bs H.sz) (by rw [Low.out]; simp; omega) (by rw [Low.out]; unfold maxLen; simp; omega) ?_)
              intro v1 W1 ho1 hg1 hr1
              refine hK _ _ ?_
              clear hK K
              replace H := RG.app23 H rfl ho1 hg1 hr1
              obtain ⟨a1, c1, e1⟩ := ho1.form
              generalize (List.length _) = m1 at e1
              subst e1
              clear ho1 hg1 hr1
              have hE := HA.out.gB
              obtain ⟨d0, d1, d2, _, fr⟩ := H.box.cells
              have f0 := fr 0
              clear fr d1 d2
              refine wpAnyU_takeP (i := 24) (v := _) rfl (by decide) (by kernel_rfl) (by kernel_rfl) (by kernel_rfl) (fun _ _ _ h => h) (Or.inl ⟨by rfl, fun w _ => by (go_simp; first | exact ⟨rfl, rfl⟩ | rfl)⟩) (by go_simp <;> with_reducible rfl) ?_
              refine wpAnyU_takeP (i := 25) (v := _) rfl (by decide) (by kernel_rfl) (by kernel_rfl) (by kernel_rfl) (fun _ _ _ h => h) (Or.inl ⟨by rfl, fun w _ => by (go_simp; first | exact ⟨rfl, rfl⟩ | rfl)⟩) (by go_simp <;> with_reducible rfl) ?_
              refine wpAnyU_takeP (i := 26) (v := _) rfl (by decide) (by kernel_rfl) (by kernel_rfl) (by kernel_rfl) (fun _ _ _ h => h) (Or.inl ⟨by rfl, fun w _ => by (go_simp; first | exact ⟨rfl, rfl⟩ | rfl)⟩) (by go_simp <;> with_reducible rfl) ?_
              refine wpAnyU_ready (CG.of (Hmk.out _ H.box)) (rs := [27]) (by kernel_rfl) (by simp) ?_
              refine (AllReadyU.cons rfl (fun K hK => ?_) AllReadyU.nil)
              go_simp
              refine hK _ _ ?_
              clear hK K
              refine genUv (R2 B g nf wr ⟨vb, vc, vw⟩ _ _ _ _ _) (H.st0 hE).st1 ?_
              clear H f0 d0
              intro wz H
              obtain ⟨d0, d1, d2, _, fr⟩ := H.box.cells
              have f1 := fr 1
              dsimp only at d1
              clear fr d0 d2
              refine wpAnyU_takeP (i := 28) (v := _) rfl (by decide) (by kernel_rfl) (by kernel_rfl) (by kernel_rfl) (fun _ _ _ h => h) (Or.inl ⟨by rfl, fun w _ => by (go_simp; first | exact ⟨rfl, rfl⟩ | rfl)⟩) (by go_simp <;> with_reducible rfl) ?_
              refine wpAnyU_takeP (i := 29) (v := _) rfl (by decide) (by kernel_rfl) (by kernel_rfl) (by kernel_rfl) (fun _ _ _ h => h) (Or.inl ⟨by rfl, fun w _ => by (go_simp; first | exact ⟨rfl, rfl⟩ | rfl)⟩) (by go_simp <;> with_reducible rfl) ?_
              refine wpAnyU_takeP (i := 30) (v := _) rfl (by decide) (by kernel_rfl) (by kernel_rfl) (by kernel_rfl) (fun _ _ _ h => h) (Or.inl ⟨by rfl, fun w _ => by (go_simp; first | exact ⟨rfl, rfl⟩ | rfl)⟩) (by go_simp <;> with_reducible rfl) ?_
              refine wpAnyU_readyV (by kernel_rfl) (rs := [31]) (by kernel_rfl) (by simp) ?_
              refine (AllReadyU.cons rfl (fun K hK => ?_) AllReadyU.nil)
              go_simp
              refine hK _ _ ?_
              clear hK K
              refine genUv (R2 B g nf wr ⟨vb, vc, vw⟩ _ _ _ _ _) H.st2 ?_
              clear H f1 d1
              intro wz H
              obtain ⟨d0, d1, d2, _, fr⟩ := H.box.cells
              have f2 := fr 2
              dsimp only at d2
              clear fr d0 d1
              refine wpAnyU_takeP (i := 32) (v := _) rfl (by decide) (by kernel_rfl) (by kernel_rfl) (by kernel_rfl) (fun _ _ _ h => h) (Or.inl ⟨by rfl, fun w _ => by (go_simp; first | exact ⟨rfl, rfl⟩ | rfl)⟩) (by go_simp <;> with_reducible rfl) ?_
              refine wpAnyU_takeP (i := 33) (v := _) rfl (by decide) (by kernel_rfl) (by kernel_rfl) (by kernel_rfl) (fun _ _ _ h => h) (Or.inl ⟨by rfl, fun w _ => by (go_simp; first | exact ⟨rfl, rfl⟩ | rfl)⟩) (by go_simp <;> with_reducible rfl) ?_
              refine wpAnyU_takeP (i := 34) (v := _) rfl (by decide) (by kernel_rfl) (by kernel_rfl) (by kernel_rfl) (fun _ _ _ h => h) (Or.inl ⟨by rfl, fun w _ => by (go_simp; first | exact ⟨rfl, rfl⟩ | rfl)⟩) (by go_simp <;> with_reducible rfl) ?_
              refine wpAnyU_readyV (by kernel_rfl) (rs := [35]) (by kernel_rfl) (by simp) ?_
              refine (AllReadyU.cons rfl (fun K hK => ?_) AllReadyU.nil)
              go_simp
              refine hK _ _ ?_
              clear hK K
              refine genUv (R2 B g nf wr ⟨vb, vc, vw⟩ _ _ _ _ _) H.st3 ?_
              clear H f2 d2
              intro wz H
              refine wpAnyU_done (by kernel_rfl) (by kernel_rfl) (by go_simp <;> with_reducible rfl) ?_
              have H := Lib.hid H
              repeat' (first | go_values | go_skip | go_guarded | go_step | go_upon)
              go_roundg (gk - 1)
              case measure => omega
              case rel =>
                refine ⟨j + 1, _, by omega, by omega, Lib.hid ⟨?_, ?_, hE⟩, Lib.hid (HS.out.trans H.out.st)⟩
                · have := H.out.box
                  rw [Hnf.out] at this
                  exact this
                · have := H.out.row
                  unfold TM.grow
                  dsimp only
                  rw [grow_snoc _ _ _ (by rw [H1.out]; exact hj), grow_snoc _ _ _ (by rw [← HL.out]; exact hj), grow_snoc _ _ _ (by rw [H2.out]; exact hj)]
                  exact this
          · go_simp
            refine hK _ _ ?_
            clear hK K
            refine genUv (RG B g s0 nf wr ⟨vb, vc, vw⟩ _ _ _ _ _ _ _) (RG.alloc22 H) ?_
            clear H
            intro wz H
            refine wpAnyU_ready (CG.of (Hmk.out _ H.box)) (rs := [9]) (by kernel_rfl) (by simp) ?_
            refine (AllReadyU.cons rfl (fun K hK => ?_) AllReadyU.nil)
            refine step_of rfl (app_intD (l1 := [0]) 8 Try.underlying25 info_int rfl (.tmp 19) (.tmp 20) rfl rfl (one_row (H.one8 _ rfl).2) H.row.ob (Nat.le_trans H.bs H.sz) (by rw [Lob.out]; simp; omega) (by rw [Lob.out]; unfold maxLen; simp; omega) ?_)
            intro v1 W1 ho1 hg1 hr1
            refine hK _ _ ?_
            clear hK K
            replace H := RG.app9 H rfl ho1 hg1 hr1
            obtain ⟨a1, c1, e1⟩ := ho1.form
            generalize (List.length _) = m1 at e1
            subst e1
            clear ho1 hg1 hr1
            refine wpAnyU_ready (CG.of (Hmk.out _ H.box)) (rs := [16]) (by kernel_rfl) (by simp) ?_
            refine (AllReadyU.cons rfl (fun K hK => ?_) AllReadyU.nil)
            refine step_of rfl (app_intD (l1 := [(-1)]) 8 Try.underlying25 info_int rfl (.tmp 26) (.tmp 27) rfl rfl (one_row (H.one15 _ rfl).2) H.row.oc (Nat.le_trans H.bs H.sz) (by rw [Loc.out]; simp; omega) (by rw [Loc.out]; unfold maxLen; simp; omega) ?_)
            intro v1 W1 ho1 hg1 hr1
            refine hK _ _ ?_
            clear hK K
            replace H := RG.app16 H rfl ho1 hg1 hr1
            obtain ⟨a1, c1, e1⟩ := ho1.form
            generalize (List.length _) = m1 at e1
            subst e1
            clear ho1 hg1 hr1
            refine wpAnyU_ready (CG.of (Hmk.out _ H.box)) (rs := [23]) (by kernel_rfl) (by simp) ?_
            refine (AllReadyU.cons rfl (fun K hK => ?_) AllReadyU.nil)
            refine step_of rfl (app_intD (l1 := [(-1)]) 8 Try.underlying25 info_int rfl (.tmp 33) (.tmp 34) rfl rfl (one_row (H.one22 _ rfl).2) H.row.ow (Nat.le_trans H.bs H.sz) (by rw [Low.out]; simp; omega) (by rw [Low.out]; unfold maxLen; simp; omega) ?_)
            intro v1 W1 ho1 hg1 hr1
            refine hK _ _ ?_
            clear hK K
            replace H := RG.app23 H rfl ho1 hg1 hr1
            obtain ⟨a1, c1, e1⟩ := ho1.form
            generalize (List.length _) = m1 at e1
            subst e1
            clear ho1 hg1 hr1
            have hE := HA.out.gB
            obtain ⟨d0, d1, d2, _, fr⟩ := H.box.cells
            have f0 := fr 0
            clear fr d1 d2
            refine wpAnyU_takeP (i := 24) (v := _) rfl (by decide) (by kernel_rfl) (by kernel_rfl) (by kernel_rfl) (fun _ _ _ h => h) (Or.inl ⟨by rfl, fun w _ => by (go_simp; first | exact ⟨rfl, rfl⟩ | rfl)⟩) (by go_simp <;> with_reducible rfl) ?_
            refine wpAnyU_takeP (i := 25) (v := _) rfl (by decide) (by kernel_rfl) (by kernel_rfl) (by kernel_rfl) (fun _ _ _ h => h) (Or.inl ⟨by rfl, fun w _ => by (go_simp; first | exact ⟨rfl, rfl⟩ | rfl)⟩) (by go_simp <;> with_reducible rfl) ?_
            refine wpAnyU_takeP (i := 26) (v := _) rfl (by decide) (by kernel_rfl) (by kernel_rfl) (by kernel_rfl) (fun _ _ _ h => h) (Or.inl ⟨by rfl, fun w _ => by (go_simp; first | exact ⟨rfl, rfl⟩ | rfl)⟩) (by go_simp <;> with_reducible rfl) ?_
            refine wpAnyU_ready (CG.of (Hmk.out _ H.box)) (rs := [27]) (by kernel_rfl) (by simp) ?_
            refine (AllReadyU.cons rfl (fun K hK => ?_) AllReadyU.nil)
            go_simp
            refine hK _ _ ?_
            clear hK K
            refine genUv (R2 B g nf wr ⟨vb, vc, vw⟩ _ _ _ _ _) (H.st0 hE).st1 ?_
            clear H f0 d0
            intro wz H
            obtain ⟨d0, d1, d2, _, fr⟩ := H.box.cells
            have f1 := fr 1
            dsimp only at d1
            clear fr d0 d2
            refine wpAnyU_takeP (i := 28) (v := _) rfl (by decide) (by kernel_rfl) (by kernel_rfl) (by kernel_rfl) (fun _ _ _ h => h) (Or.inl ⟨by rfl, fun w _ => by (go_simp; first | exact ⟨rfl, rfl⟩ | rfl)⟩) (by go_simp <;> with_reducible rfl) ?_
            refine wpAnyU_takeP (i := 29) (v := _) rfl (by decide) (by kernel_rfl) (by kernel_rfl) (by kernel_rfl) (fun _ _ _ h => h) (Or.inl ⟨by rfl, fun w _ => by (go_simp; first | exact ⟨rfl, rfl⟩ | rfl)⟩) (by go_simp <;> with_reducible rfl) ?_
            refine wpAnyU_takeP (i := 30) (v := _) rfl (by decide) (by kernel_rfl) (by kernel_rfl) (by kernel_rfl) (fun _ _ _ h => h) (Or.inl ⟨by rfl, fun w _ => by (go_simp; first | exact ⟨rfl, rfl⟩ | rfl)⟩) (by go_simp <;> with_reducible rfl) ?_
            refine wpAnyU_readyV (by kernel_rfl) (rs := [31]) (by kernel_rfl) (by simp) ?_
            refine (AllReadyU.cons rfl (fun K hK => ?_) AllReadyU.nil)
            go_simp
            refine hK _ _ ?_
            clear hK K
            refine genUv (R2 B g nf wr ⟨vb, vc, vw⟩ _ _ _ _ _) H.st2 ?_
            clear H f1 d1
            intro wz H
            obtain ⟨d0, d1, d2, _, fr⟩ := H.box.cells
            have f2 := fr 2
            dsimp only at d2
            clear fr d0 d1
            refine wpAnyU_takeP (i := 32) (v := _) rfl (by decide) (by kernel_rfl) (by kernel_rfl) (by kernel_rfl) (fun _ _ _ h => h) (Or.inl ⟨by rfl, fun w _ => by (go_simp; first | exact ⟨rfl, rfl⟩ | rfl)⟩) (by go_simp <;> with_reducible rfl) ?_
            refine wpAnyU_takeP (i := 33) (v := _) rfl (by decide) (by kernel_rfl) (by kernel_rfl) (by kernel_rfl) (fun _ _ _ h => h) (Or.inl ⟨by rfl, fun w _ => by (go_simp; first | exact ⟨rfl, rfl⟩ | rfl)⟩) (by go_simp <;> with_reducible rfl) ?_
            refine wpAnyU_takeP (i := 34) (v := _) rfl (by decide) (by kernel_rfl) (by kernel_rfl) (by kernel_rfl) (fun _ _ _ h => h) (Or.inl ⟨by rfl, fun w _ => by (go_simp; first | exact ⟨rfl, rfl⟩ | rfl)⟩) (by go_simp <;> with_reducible rfl) ?_
            refine wpAnyU_readyV (by kernel_rfl) (rs := [35]) (by kernel_rfl) (by simp) ?_
            refine (AllReadyU.cons rfl (fun K hK => ?_) AllReadyU.nil)
            go_simp
            refine hK _ _ ?_
            clear hK K
            refine genUv (R2 B g nf wr ⟨vb, vc, vw⟩ _ _ _ _ _) H.st3 ?_
            clear H f2 d2
            intro wz H
            refine wpAnyU_done (by kernel_rfl) (by kernel_rfl) (by go_simp <;> with_reducible rfl) ?_
            have H := Lib.hid H
            repeat' (first | go_values | go_skip | go_guarded | go_step | go_upon)
            go_roundg (gk - 1)
            case measure => omega
            case rel =>
              refine ⟨j + 1, _, by omega, by omega, Lib.hid ⟨?_, ?_, hE⟩, Lib.hid (HS.out.trans H.out.st)⟩
              · have := H.out.box
                rw [Hnf.out] at this
                exact this
              · have := H.out.row
                unfold TM.grow
                dsimp only
                rw [grow_snoc _ _ _ (by rw [H1.out]; exact hj), grow_snoc _ _ _ (by rw [← HL.out]; exact hj), grow_snoc _ _ _ (by rw [H2.out]; exact hj)]
                exact this
        · go_simp
          refine hK _ _ ?_
          clear hK K
          refine genUv (RG B g s0 nf wr ⟨vb, vc, vw⟩ _ _ _ _ _ _ _) (RG.alloc22 H) ?_
          clear H
          intro wz H
          refine wpAnyU_ready (CG.of (Hmk.out _ H.box)) (rs := [8]) (by kernel_rfl) (by simp) ?_
          refine (AllReadyU.cons rfl (fun K hK => ?_) AllReadyU.nil)
          go_simp
          refine hK _ _ ?_
          clear hK K
          refine genUv (RG B g s0 nf wr ⟨vb, vc, vw⟩ _ _ _ _ _ _ _) (RG.alloc8 H) ?_
          clear H
          intro wz H
          refine wpAnyU_ready (CG.of (Hmk.out _ H.box)) (rs := [9]) (by kernel_rfl) (by simp) ?_
          refine (AllReadyU.cons rfl (fun K hK => ?_) AllReadyU.nil)
          refine step_of rfl (app_intD (l1 := [0]) 8 Try.underlying25 info_int rfl (.tmp 19) (.tmp 20) rfl rfl (one_row (H.one8 _ rfl).2) H.row.ob (Nat.le_trans H.bs H.sz) (by rw [Lob.out]; simp; omega) (by rw [Lob.out]; unfold maxLen; simp; omega) ?_)
          intro v1 W1 ho1 hg1 hr1
          refine hK _ _ ?_
          clear hK K
          replace H := RG.app9 H rfl ho1 hg1 hr1
          obtain ⟨a1, c1, e1⟩ := ho1.form
          generalize (List.length _) = m1 at e1
          subst e1
          clear ho1 hg1 hr1
          refine wpAnyU_ready (CG.of (Hmk.out _ H.box)) (rs := [16]) (by kernel_rfl) (by simp) ?_
          refine (AllReadyU.cons rfl (fun K hK => ?_) AllReadyU.nil)
          refine step_of rfl (app_intD (l1 := [(-1)]) 8 Try.underlying25 info_int rfl (.tmp 26) (.tmp 27) rfl rfl (one_row (H.one15 _ rfl).2) H.row.oc (Nat.le_trans H.bs H.sz) (by rw [Loc.out]; simp; omega) (by rw [Loc.out]; unfold maxLen; simp; omega) ?_)
          intro v1 W1 ho1 hg1 hr1
          refine hK _ _ ?_
          clear hK K
          replace H := RG.app16 H rfl ho1 hg1 hr1
          obtain ⟨a1, c1, e1⟩ := ho1.form
          generalize (List.length _) = m1 at e1
          subst e1
          clear ho1 hg1 hr1
          refine wpAnyU_ready (CG.of (Hmk.out _ H.box)) (rs := [23]) (by kernel_rfl) (by simp) ?_
          refine (AllReadyU.cons rfl (fun K hK => ?_) AllReadyU.nil)
          refine step_of rfl (app_intD (l1 := [(-1)]) 8 Try.underlying25 info_int rfl (.tmp 33) (.tmp 34) rfl rfl (one_row (H.one22 _ rfl).2) H.row.ow (Nat.le_trans H.bs H.sz) (by rw [Low.out]; simp; omega) (by rw [Low.out]; unfold maxLen; simp; omega) ?_)
          intro v1 W1 ho1 hg1 hr1
          refine hK _ _ ?_
          clear hK K
          replace H := RG.app23 H rfl ho1 hg1 hr1
          obtain ⟨a1, c1, e1⟩ := ho1.form
          generalize (List.length _) = m1 at e1
          subst e1
          clear ho1 hg1 hr1
          have hE := HA.out.gB
          obtain ⟨d0, d1, d2, _, fr⟩ := H.box.cells
          have f0 := fr 0
          clear fr d1 d2
          refine wpAnyU_takeP (i := 24) (v := _) rfl (by decide) (by kernel_rfl) (by kernel_rfl) (by kernel_rfl) (fun _ _ _ h => h) (Or.inl ⟨by rfl, fun w _ => by (go_simp; first | exact ⟨rfl, rfl⟩ | rfl)⟩) (by go_simp <;> with_reducible rfl) ?_
          refine wpAnyU_takeP (i := 25) (v := _) rfl (by decide) (by kernel_rfl) (by kernel_rfl) (by kernel_rfl) (fun _ _ _ h => h) (Or.inl ⟨by rfl, fun w _ => by (go_simp; first | exact ⟨rfl, rfl⟩ | rfl)⟩) (by go_simp <;> with_reducible rfl) ?_
          refine wpAnyU_takeP (i := 26) (v := _) rfl (by decide) (by kernel_rfl) (by kernel_rfl) (by kernel_rfl) (fun _ _ _ h => h) (Or.inl ⟨by rfl, fun w _ => by (go_simp; first | exact ⟨rfl, rfl⟩ | rfl)⟩) (by go_simp <;> with_reducible rfl) ?_
          refine wpAnyU_ready (CG.of (Hmk.out _ H.box)) (rs := [27]) (by kernel_rfl) (by simp) ?_
          refine (AllReadyU.cons rfl (fun K hK => ?_) AllReadyU.nil)
          go_simp
          refine hK _ _ ?_
          clear hK K
          refine genUv (R2 B g nf wr ⟨vb, vc, vw⟩ _ _ _ _ _) (H.st0 hE).st1 ?_
          clear H f0 d0
          intro wz H
          obtain ⟨d0, d1, d2, _, fr⟩ := H.box.cells
          have f1 := fr 1
          dsimp only at d1
          clear fr d0 d2
          refine wpAnyU_takeP (i := 28) (v := _) rfl (by decide) (by kernel_rfl) (by kernel_rfl) (by kernel_rfl) (fun _ _ _ h => h) (Or.inl ⟨by rfl, fun w _ => by (go_simp; first | exact ⟨rfl, rfl⟩ | rfl)⟩) (by go_simp <;> with_reducible rfl) ?_
          refine wpAnyU_takeP (i := 29) (v := _) rfl (by decide) (by kernel_rfl) (by kernel_rfl) (by kernel_rfl) (fun _ _ _ h => h) (Or.inl ⟨by rfl, fun w _ => by (go_simp; first | exact ⟨rfl, rfl⟩ | rfl)⟩) (by go_simp <;> with_reducible rfl) ?_
          refine wpAnyU_takeP (i := 30) (v := _) rfl (by decide) (by kernel_rfl) (by kernel_rfl) (by kernel_rfl) (fun _ _ _ h => h) (Or.inl ⟨by rfl, fun w _ => by (go_simp; first | exact ⟨rfl, rfl⟩ | rfl)⟩) (by go_simp <;> with_reducible rfl) ?_
          refine wpAnyU_readyV (by kernel_rfl) (rs := [31]) (by kernel_rfl) (by simp) ?_
          refine (AllReadyU.cons rfl (fun K hK => ?_) AllReadyU.nil)
          go_simp
          refine hK _ _ ?_
          clear hK K
          refine genUv (R2 B g nf wr ⟨vb, vc, vw⟩ _ _ _ _ _) H.st2 ?_
          clear H f1 d1
          intro wz H
          obtain ⟨d0, d1, d2, _, fr⟩ := H.box.cells
          have f2 := fr 2
          dsimp only at d2
          clear fr d0 d1
          refine wpAnyU_takeP (i := 32) (v := _) rfl (by decide) (by kernel_rfl) (by kernel_rfl) (by kernel_rfl) (fun _ _ _ h => h) (Or.inl ⟨by rfl, fun w _ => by (go_simp; first | exact ⟨rfl, rfl⟩ | rfl)⟩) (by go_simp <;> with_reducible rfl) ?_
          refine wpAnyU_takeP (i := 33) (v := _) rfl (by decide) (by kernel_rfl) (by kernel_rfl) (by kernel_rfl) (fun _ _ _ h => h) (Or.inl ⟨by rfl, fun w _ => by (go_simp; first | exact ⟨rfl, rfl⟩ | rfl)⟩) (by go_simp <;> with_reducible rfl) ?_
          refine wpAnyU_takeP (i := 34) (v := _) rfl (by decide) (by kernel_rfl) (by kernel_rfl) (by kernel_rfl) (fun _ _ _ h => h) (Or.inl ⟨by rfl, fun w _ => by (go_simp; first | exact ⟨rfl, rfl⟩ | rfl)⟩) (by go_simp <;> with_reducible rfl) ?_
          refine wpAnyU_readyV (by kernel_rfl) (rs := [35]) (by kernel_rfl) (by simp) ?_
          refine (AllReadyU.cons rfl (fun K hK => ?_) AllReadyU.nil)
          go_simp
          refine hK _ _ ?_
          clear hK K
          refine genUv (R2 B g nf wr ⟨vb, vc, vw⟩ _ _ _ _ _) H.st3 ?_
          clear H f2 d2
          intro wz H
          refine wpAnyU_done (by kernel_rfl) (by kernel_rfl) (by go_simp <;> with_reducible rfl) ?_
          have H := Lib.hid H
          repeat' (first | go_values | go_skip | go_guarded | go_step | go_upon)
          go_roundg (gk - 1)
          case measure => omega
          case rel =>
            refine ⟨j + 1, _, by omega, by omega, Lib.hid ⟨?_, ?_, hE⟩, Lib.hid (HS.out.trans H.out.st)⟩
            · have := H.out.box
              rw [Hnf.out] at this
              exact this
            · have := H.out.row
              unfold TM.grow
              dsimp only
              rw [grow_snoc _ _ _ (by rw [H1.out]; exact hj), grow_snoc _ _ _ (by rw [← HL.out]; exact hj), grow_snoc _ _ _ (by rw [H2.out]; exact hj)]
              exact this
      · go_simp
        refine hK _ _ ?_
        clear hK K
        refine genUv (RG B g s0 nf wr ⟨vb, vc, vw⟩ _ _ _ _ _ _ _) (RG.alloc22 H) ?_
        clear H
        intro wz H
        refine wpAnyU_ready (CG.of (Hmk.out _ H.box)) (rs := [8, 15]) (by kernel_rfl) (by simp) ?_
        refine (AllReadyU.cons rfl (fun K hK => ?_) (AllReadyU.cons rfl (fun K hK => ?_) AllReadyU.nil))
        · go_simp
          refine hK _ _ ?_
          clear hK K
          refine genUv (RG B g s0 nf wr ⟨vb, vc, vw⟩ _ _ _ _ _ _ _) (RG.alloc8 H) ?_
          clear H
          intro wz H
          refine wpAnyU_ready (CG.of (Hmk.out _ H.box)) (rs := [9, 15]) (by kernel_rfl) (by simp) ?_
          refine (AllReadyU.cons rfl (fun K hK => ?_) (AllReadyU.cons rfl (fun K hK => ?_) AllReadyU.nil))
          · refine step_of rfl (app_intD (l1 := [0]) 8 Try.underlying25 info_int rfl (.tmp 19) (.tmp 20) rfl rfl (one_row (H.one8 _ rfl).2) H.row.ob (Nat.le_trans H.bs H.sz) (by rw [Lob.out]; simp; omega) (by rw [Lob.out]; unfold maxLen; simp; omega) ?_)
            intro v1 W1 ho1 hg1 hr1
            refine hK _ _ ?_
            clear hK K
            replace H := RG.app9 H rfl ho1 hg1 hr1
            obtain ⟨a1, c1, e1⟩ := ho1.form
            generalize (List.length _) = m1 at e1
            subst e1
            clear ho1 hg1 hr1
            refine wpAnyU_ready (CG.of (Hmk.out _ H.box)) (rs := [15]) (by kernel_rfl) (by simp) ?_
            refine (AllReadyU.cons rfl (fun K hK => ?_) AllReadyU.nil)
            go_simp
            refine hK _ _ ?_
            clear hK K
            refine genUv (RG B g s0 nf wr ⟨vb, vc, vw⟩ _ _ _ _ _ _ _) (RG.alloc15 H) ?_
            clear H
            intro wz H
            refine wpAnyU_ready (CG.of (Hmk.out _ H.box)) (rs := [16]) (by kernel_rfl) (by simp) ?_
            refine (AllReadyU.cons rfl (fun K hK => ?_) AllReadyU.nil)
            refine step_of rfl (app_intD (l1 := [(-1)]) 8 Try.underlying25 info_int rfl (.tmp 26) (.tmp 27) rfl rfl (one_row (H.one15 _ rfl).2) H.row.oc (Nat.le_trans H.bs H.sz) (by rw [Loc.out]; simp; omega) (by rw [Loc.out]; unfold maxLen; simp; omega) ?_)
            intro v1 W1 ho1 hg1 hr1
            refine hK _ _ ?_
            clear hK K
            replace H := RG.app16 H rfl ho1 hg1 hr1
            obtain ⟨a1, c1, e1⟩ := ho1.form
            generalize (List.length _) = m1 at e1
            subst e1
            clear ho1 hg1 hr1
            refine wpAnyU_ready (CG.of (Hmk.out _ H.box)) (rs := [23]) (by kernel_rfl) (by simp) ?_
            refine (AllReadyU.cons rfl (fun K hK => ?_) AllReadyU.nil)
            refine step_of rfl (app_intD (l1 := [(-1)]) 8 Try.underlying25 info_int rfl (.tmp 33) (.tmp 34) rfl rfl (one_row (H.one22 _ rfl).2) H.row.ow (Nat.le_trans H.bs H.sz) (by rw [Low.out]; simp; omega) (by rw [Low.out]; unfold maxLen; simp; omega) ?_)
            intro v1 W1 ho1 hg1 hr1
            refine hK _ _ ?_
            clear hK K
            replace H := RG.app23 H rfl ho1 hg1 hr1
            obtain ⟨a1, c1, e1⟩ := ho1.form
            generalize (List.length _) = m1 at e1
            subst e1
            clear ho1 hg1 hr1
            have hE := HA.out.gB
            obtain ⟨d0, d1, d2, _, fr⟩ := H.box.cells
            have f0 := fr 0
            clear fr d1 d2
            refine wpAnyU_takeP (i := 24) (v := _) rfl (by decide) (by kernel_rfl) (by kernel_rfl) (by kernel_rfl) (fun _ _ _ h => h) (Or.inl ⟨by rfl, fun w _ => by (go_simp; first | exact ⟨rfl, rfl⟩ | rfl)⟩) (by go_simp <;> with_reducible rfl) ?_
            refine wpAnyU_takeP (i := 25) (v := _) rfl (by decide) (by kernel_rfl) (by kernel_rfl) (by kernel_rfl) (fun _ _ _ h => h) (Or.inl ⟨by rfl, fun w _ => by (go_simp; first | exact ⟨rfl, rfl⟩ | rfl)⟩) (by go_simp <;> with_reducible rfl) ?_
            refine wpAnyU_takeP (i := 26) (v := _) rfl (by decide) (by kernel_rfl) (by kernel_rfl) (by kernel_rfl) (fun _ _ _ h => h) (Or.inl ⟨by rfl, fun w _ => by (go_simp; first | exact ⟨rfl, rfl⟩ | rfl)⟩) (by go_simp <;> with_reducible rfl) ?_
            refine wpAnyU_ready (CG.of (Hmk.out _ H.box)) (rs := [27]) (by kernel_rfl) (by simp) ?_
            refine (AllReadyU.cons rfl (fun K hK => ?_) AllReadyU.nil)
            go_simp
            refine hK _ _ ?_
            clear hK K
            refine genUv (R2 B g nf wr ⟨vb, vc, vw⟩ _ _ _ _ _) (H.st0 hE).st1 ?_
            clear H f0 d0
            intro wz H
            obtain ⟨d0, d1, d2, _, fr⟩ := H.box.cells
            have f1 := fr 1
            dsimp only at d1
            clear fr d0 d2
            refine wpAnyU_takeP (i := 28) (v := _) rfl (by decide) (by kernel_rfl) (by kernel_rfl) (by kernel_rfl) (fun _ _ _ h => h) (Or.inl ⟨by rfl, fun w _ => by (go_simp; first | exact ⟨rfl, rfl⟩ | rfl)⟩) (by go_simp <;> with_reducible rfl) ?_
            refine wpAnyU_takeP (i := 29) (v := _) rfl (by decide) (by kernel_rfl) (by kernel_rfl) (by kernel_rfl) (fun _ _ _ h => h) (Or.inl ⟨by rfl, fun w _ => by (go_simp; first | exact ⟨rfl, rfl⟩ | rfl)⟩) (by go_simp <;> with_reducible rfl) ?_
            refine wpAnyU_takeP (i := 30) (v := _) rfl (by decide) (by kernel_rfl) (by kernel_rfl) (by kernel_rfl) (fun _ _ _ h => h) (Or.inl ⟨by rfl, fun w _ => by (go_simp; first | exact ⟨rfl, rfl⟩ | rfl)⟩) (by go_simp <;> with_reducible rfl) ?_
            refine wpAnyU_readyV (by kernel_rfl) (rs := [31]) (by kernel_rfl) (by simp) ?_
            refine (AllReadyU.cons rfl (fun K hK => ?_) AllReadyU.nil)
            go_simp
            refine hK _ _ ?_
            clear hK K
            refine genUv (R2 B g nf wr ⟨vb, vc, vw⟩ _ _ _ _ _) H.st2 ?_
            clear H f1 d1
            intro wz H
            obtain ⟨d0, d1, d2, _, fr⟩ := H.box.cells
            have f2 := fr 2
            dsimp only at d2
            clear fr d0 d1
            refine wpAnyU_takeP (i := 32) (v := _) rfl (by decide) (by kernel_rfl) (by kernel_rfl) (by kernel_rfl) (fun _ _ _ h => h) (Or.inl ⟨by rfl, fun w _ => by (go_simp; first | exact ⟨rfl, rfl⟩ | rfl)⟩) (by go_simp <;> with_reducible rfl) ?_
            refine wpAnyU_takeP (i := 33) (v := _) rfl (by decide) (by kernel_rfl) (by kernel_rfl) (by kernel_rfl) (fun _ _ _ h => h) (Or.inl ⟨by rfl, fun w _ => by (go_simp; first | exact ⟨rfl, rfl⟩ | rfl)⟩) (by go_simp <;> with_reducible rfl) ?_
            refine wpAnyU_takeP (i := 34) (v := _) rfl (by decide) (by kernel_rfl) (by kernel_rfl) (by kernel_rfl) (fun _ _ _ h => h) (Or.inl ⟨by rfl, fun w _ => by (go_simp; first | exact ⟨rfl, rfl⟩ | rfl)⟩) (by go_simp <;> with_reducible rfl) ?_
            refine wpAnyU_readyV (by kernel_rfl) (rs := [35]) (by kernel_rfl) (by simp) ?_
            refine (AllReadyU.cons rfl (fun K hK => ?_) AllReadyU.nil)
            go_simp
            refine hK _ _ ?_
            clear hK K
            refine genUv (R2 B g nf wr ⟨vb, vc, vw⟩ _ _ _ _ _) H.st3 ?_
            clear H f2 d2
            intro wz H
            refine wpAnyU_done (by kernel_rfl) (by kernel_rfl) (by go_simp <;> with_reducible rfl) ?_
            have H := Lib.hid H
            repeat' (first | go_values | go_skip | go_guarded | go_step | go_upon)
            go_roundg (gk - 1)
            case measure => omega
            case rel =>
              refine ⟨j + 1, _, by omega, by omega, Lib.hid ⟨?_, ?_, hE⟩, Lib.hid (HS.out.trans H.out.st)⟩
              · have := H.out.box
                rw [Hnf.out] at this
                exact this
              · have := H.out.row
                unfold TM.grow
                dsimp only
                rw [grow_snoc _ _ _ (by rw [H1.out]; exact hj), grow_snoc _ _ _ (by rw [← HL.out]; exact hj), grow_snoc _ _ _ (by rw [H2.out]; exact hj)]
                exact this
          · go_simp
            refine hK _ _ ?_
            clear hK K
            refine genUv (RG B g s0 nf wr ⟨vb, vc, vw⟩ _ _ _ _ _ _ _) (RG.alloc15 H) ?_
            clear H
            intro wz H
            refine wpAnyU_ready (CG.of (Hmk.out _ H.box)) (rs := [9]) (by kernel_rfl) (by simp) ?_
            refine (AllReadyU.cons rfl (fun K hK => ?_) AllReadyU.nil)
            refine step_of rfl (app_intD (l1 := [0]) 8 Try.underlying25 info_int rfl (.tmp 19) (.tmp 20) rfl rfl (one_row (H.one8 _ rfl).2) H.row.ob (Nat.le_trans H.bs H.sz) (by rw [Lob.out]; simp; omega) (by rw [Lob.out]; unfold maxLen; simp; omega) ?_)
            intro v1 W1 ho1 hg1 hr1
            refine hK _ _ ?_
            clear hK K
            replace H := RG.app9 H rfl ho1 hg1 hr1
            obtain ⟨a1, c1, e1⟩ := ho1.form
            generalize (List.length _) = m1 at e1
            subst e1
            clear ho1 hg1 hr1
            refine wpAnyU_ready (CG.of (Hmk.out _ H.box)) (rs := [16]) (by kernel_rfl) (by simp) ?_
            refine (AllReadyU.cons rfl (fun K hK => ?_) AllReadyU.nil)
            refine step_of rfl (app_intD (l1 := [(-1)]) 8 Try.underlying25 info_int rfl (.tmp 26) (.tmp 27) rfl rfl (one_row (H.one15 _ rfl).2) H.row.oc (Nat.le_trans H.bs H.sz) (by rw [Loc.out]; simp; omega) (by rw [Loc.out]; unfold maxLen; simp; omega) ?_)
            intro v1 W1 ho1 hg1 hr1
            refine hK _ _ ?_
            clear hK K
            replace H := RG.app16 H rfl ho1 hg1 hr1
            obtain ⟨a1, c1, e1⟩ := ho1.form
            generalize (List.length _) = m1 at e1
            subst e1
            clear ho1 hg1 hr1
            refine wpAnyU_ready (CG.of (Hmk.out _ H.box)) (rs := [23]) (by kernel_rfl) (by simp) ?_
            refine (AllReadyU.cons rfl (fun K hK => ?_) AllReadyU.nil)
            refine step_of rfl (app_intD (l1 := [(-1)]) 8 Try.underlying25 info_int rfl (.tmp 33) (.tmp 34) rfl rfl (one_row (H.one22 _ rfl).2) H.row.ow (Nat.le_trans H.bs H.sz) (by rw [Low.out]; simp; omega) (by rw [Low.out]; unfold maxLen; simp; omega) ?_)
            intro v1 W1 ho1 hg1 hr1
            refine hK _ _ ?_
            clear hK K
            replace H := RG.app23 H rfl ho1 hg1 hr1
            obtain ⟨a1, c1, e1⟩ := ho1.form
            generalize (List.length _) = m1 at e1
            subst e1
            clear ho1 hg1 hr1
            have hE := HA.out.gB
            obtain ⟨d0, d1, d2, _, fr⟩ := H.box.cells
            have f0 := fr 0
            clear fr d1 d2
            refine wpAnyU_takeP (i := 24) (v := _) rfl (by decide) (by kernel_rfl) (by kernel_rfl) (by kernel_rfl) (fun _ _ _ h => h) (Or.inl ⟨by rfl, fun w _ => by (go_simp; first | exact ⟨rfl, rfl⟩ | rfl)⟩) (by go_simp <;> with_reducible rfl) ?_
            refine wpAnyU_takeP (i := 25) (v := _) rfl (by decide) (by kernel_rfl) (by kernel_rfl) (by kernel_rfl) (fun _ _ _ h => h) (Or.inl ⟨by rfl, fun w _ => by (go_simp; first | exact ⟨rfl, rfl⟩ | rfl)⟩) (by go_simp <;> with_reducible rfl) ?_
            refine wpAnyU_takeP (i := 26) (v := _) rfl (by decide) (by kernel_rfl) (by kernel_rfl) (by kernel_rfl) (fun _ _ _ h => h) (Or.inl ⟨by rfl, fun w _ => by (go_simp; first | exact ⟨rfl, rfl⟩ | rfl)⟩) (by go_simp <;> with_reducible rfl) ?_
            refine wpAnyU_ready (CG.of (Hmk.out _ H.box)) (rs := [27]) (by kernel_rfl) (by simp) ?_
            refine (AllReadyU.cons rfl (fun K hK => ?_) AllReadyU.nil)
            go_simp
            refine hK _ _ ?_
            clear hK K
            refine genUv (R2 B g nf wr ⟨vb, vc, vw⟩ _ _ _ _ _) (H.st0 hE).st1 ?_
            clear H f0 d0
            intro wz H
            obtain ⟨d0, d1, d2, _, fr⟩ := H.box.cells
            have f1 := fr 1
            dsimp only at d1
            clear fr d0 d2
            refine wpAnyU_takeP (i := 28) (v := _) rfl (by decide) (by kernel_rfl) (by kernel_rfl) (by kernel_rfl) (fun _ _ _ h => h) (Or.inl ⟨by rfl, fun w _ => by (go_simp; first | exact ⟨rfl, rfl⟩ | rfl)⟩) (by go_simp <;> with_reducible rfl) ?_
            refine wpAnyU_takeP (i := 29) (v := _) rfl (by decide) (by kernel_rfl) (by kernel_rfl) (by kernel_rfl) (fun _ _ _ h => h) (Or.inl ⟨by rfl, fun w _ => by (go_simp; first | exact ⟨rfl, rfl⟩ | rfl)⟩) (by go_simp <;> with_reducible rfl) ?_
            refine wpAnyU_takeP (i := 30) (v := _) rfl (by decide) (by kernel_rfl) (by kernel_rfl) (by kernel_rfl) (fun _ _ _ h => h) (Or.inl ⟨by rfl, fun w _ => by (go_simp; first | exact ⟨rfl, rfl⟩ | rfl)⟩) (by go_simp <;> with_reducible rfl) ?_
            refine wpAnyU_readyV (by kernel_rfl) (rs := [31]) (by kernel_rfl) (by simp) ?_
            refine (AllReadyU.cons rfl (fun K hK => ?_) AllReadyU.nil)
            go_simp
            refine hK _ _ ?_
            clear hK K
            refine genUv (R2 B g nf wr ⟨vb, vc, vw⟩ _ _ _ _ _) H.st2 ?_
            clear H f1 d1
            intro wz H
            obtain ⟨d0, d1, d2, _, fr⟩ := H.box.cells
            have f2 := fr 2
            dsimp only at d2
            clear fr d0 d1
            refine wpAnyU_takeP (i := 32) (v := _) rfl (by decide) (by kernel_rfl) (by kernel_rfl) (by kernel_rfl) (fun _ _ _ h => h) (Or.inl ⟨by rfl, fun w _ => by (go_simp; first | exact ⟨rfl, rfl⟩ | rfl)⟩) (by go_simp <;> with_reducible rfl) ?_
            refine wpAnyU_takeP (i := 33) (v := _) rfl (by decide) (by kernel_rfl) (by kernel_rfl) (by kernel_rfl) (fun _ _ _ h => h) (Or.inl ⟨by rfl, fun w _ => by (go_simp; first | exact ⟨rfl, rfl⟩ | rfl)⟩) (by go_simp <;> with_reducible rfl) ?_
            refine wpAnyU_takeP (i := 34) (v := _) rfl (by decide) (by kernel_rfl) (by kernel_rfl) (by kernel_rfl) (fun _ _ _ h => h) (Or.inl ⟨by rfl, fun w _ => by (go_simp; first | exact ⟨rfl, rfl⟩ | rfl)⟩) (by go_simp <;> with_reducible rfl) ?_
            refine wpAnyU_readyV (by kernel_rfl) (rs := [35]) (by kernel_rfl) (by simp) ?_
            refine (AllReadyU.cons rfl (fun K hK => ?_) AllReadyU.nil)
            go_simp
            refine hK _ _ ?_
            clear hK K
            refine genUv (R2 B g nf wr ⟨vb, vc, vw⟩ _ _ _ _ _) H.st3 ?_
            clear H f2 d2
            intro wz H
            refine wpAnyU_done (by kernel_rfl) (by kernel_rfl) (by go_simp <;> with_reducible rfl) ?_
            have H := Lib.hid H
            repeat' (first | go_values | go_skip | go_guarded | go_step | go_upon)
            go_roundg (gk - 1)
            case measure => omega
            case rel =>
              refine ⟨j + 1, _, by omega, by omega, Lib.hid ⟨?_, ?_, hE⟩, Lib.hid (HS.out.trans H.out.st)⟩
              · have := H.out.box
                rw [Hnf.out] at this
                exact this
              · have := H.out.row
                unfold TM.grow
                dsimp only
                rw [grow_snoc _ _ _ (by rw [H1.out]; exact hj), grow_snoc _ _ _ (by rw [← HL.out]; exact hj), grow_snoc _ _ _ (by rw [H2.out]; exact hj)]
                exact this
        · go_simp
          refine hK _ _ ?_
          clear hK K
          refine genUv (RG B g s0 nf wr ⟨vb, vc, vw⟩ _ _ _ _ _ _ _) (RG.alloc15 H) ?_
          clear H
          intro wz H
          refine wpAnyU_ready (CG.of (Hmk.out _ H.box)) (rs := [8]) (by kernel_rfl) (by simp) ?_
          refine (AllReadyU.cons rfl (fun K hK => ?_) AllReadyU.nil)
          go_simp
          refine hK _ _ ?_
          clear hK K
          refine genUv (RG B g s0 nf wr ⟨vb, vc, vw⟩ _ _ _ _ _ _ _) (RG.alloc8 H) ?_
          clear H
          intro wz H
          refine wpAnyU_ready (CG.of (Hmk.out _ H.box)) (rs := [9]) (by kernel_rfl) (by simp) ?_
          refine (AllReadyU.cons rfl (fun K hK => ?_) AllReadyU.nil)
          refine step_of rfl (app_intD (l1 := [0]) 8 Try.underlying25 info_int rfl (.tmp 19) (.tmp 20) rfl rfl (one_row (H.one8 _ rfl).2) H.row.ob (Nat.le_trans H.bs H.sz) (by rw [Lob.out]; simp; omega) (by rw [Lob.out]; unfold maxLen; simp; omega) ?_)
          intro v1 W1 ho1 hg1 hr1
          refine hK _ _ ?_
          clear hK K
          replace H := RG.app9 H rfl ho1 hg1 hr1
          obtain ⟨a1, c1, e1⟩ := ho1.form
          generalize (List.length _) = m1 at e1
          subst e1
          clear ho1 hg1 hr1
          refine wpAnyU_ready (CG.of (Hmk.out _ H.box)) (rs := [16]) (by kernel_rfl) (by simp) ?_
          refine (AllReadyU.cons rfl (fun K hK => ?_) AllReadyU.nil)
          refine step_of rfl (app_intD (l1 := [(-1)]) 8 Try.underlying25 info_int rfl (.tmp 26) (.tmp 27) rfl rfl (one_row (H.one15 _ rfl).2) H.row.oc (Nat.le_trans H.bs H.sz) (by rw [Loc.out]; simp; omega) (by rw [Loc.out]; unfold maxLen; simp; omega) ?_)
          intro v1 W1 ho1 hg1 hr1
          refine hK _ _ ?_
          clear hK K
          replace H := RG.app16 H rfl ho1 hg1 hr1
          obtain ⟨a1, c1, e1⟩ := ho1.form
          generalize (List.length _) = m1 at e1
          subst e1
          clear ho1 hg1 hr1
          refine wpAnyU_ready (CG.of (Hmk.out _ H.box)) (rs := [23]) (by kernel_rfl) (by simp) ?_
          refine (AllReadyU.cons rfl (fun K hK => ?_) AllReadyU.nil)
          refine step_of rfl (app_intD (l1 := [(-1)]) 8 Try.underlying25 info_int rfl (.tmp 33) (.tmp 34) rfl rfl (one_row (H.one22 _ rfl).2) H.row.ow (Nat.le_trans H.bs H.sz) (by rw [Low.out]; simp; omega) (by rw [Low.out]; unfold maxLen; simp; omega) ?_)
          intro v1 W1 ho1 hg1 hr1
          refine hK _ _ ?_
          clear hK K
          replace H := RG.app23 H rfl ho1 hg1 hr1
          obtain ⟨a1, c1, e1⟩ := ho1.form
          generalize (List.length _) = m1 at e1
          subst e1
          clear ho1 hg1 hr1
          have hE := HA.out.gB
          obtain ⟨d0, d1, d2, _, fr⟩ := H.box.cells
          have f0 := fr 0
          clear fr d1 d2
          refine wpAnyU_takeP (i := 24) (v := _) rfl (by decide) (by kernel_rfl) (by kernel_rfl) (by kernel_rfl) (fun _ _ _ h => h) (Or.inl ⟨by rfl, fun w _ => by (go_simp; first | exact ⟨rfl, rfl⟩ | rfl)⟩) (by go_simp <;> with_reducible rfl) ?_
          refine wpAnyU_takeP (i := 25) (v := _) rfl (by decide) (by kernel_rfl) (by kernel_rfl) (by kernel_rfl) (fun _ _ _ h => h) (Or.inl ⟨by rfl, fun w _ => by (go_simp; first | exact ⟨rfl, rfl⟩ | rfl)⟩) (by go_simp <;> with_reducible rfl) ?_
          refine wpAnyU_takeP (i := 26) (v := _) rfl (by decide) (by kernel_rfl) (by kernel_rfl) (by kernel_rfl) (fun _ _ _ h => h) (Or.inl ⟨by rfl, fun w _ => by (go_simp; first | exact ⟨rfl, rfl⟩ | rfl)⟩) (by go_simp <;> with_reducible rfl) ?_
          refine wpAnyU_ready (CG.of (Hmk.out _ H.box)) (rs := [27]) (by kernel_rfl) (by simp) ?_
          refine (AllReadyU.cons rfl (fun K hK => ?_) AllReadyU.nil)
          go_simp
          refine hK _ _ ?_
          clear hK K
          refine genUv (R2 B g nf wr ⟨vb, vc, vw⟩ _ _ _ _ _) (H.st0 hE).st1 ?_
          clear H f0 d0
          intro wz H
          obtain ⟨d0, d1, d2, _, fr⟩ := H.box.cells
          have f1 := fr 1
          dsimp only at d1
          clear fr d0 d2
          refine wpAnyU_takeP (i := 28) (v := _) rfl (by decide) (by kernel_rfl) (by kernel_rfl) (by kernel_rfl) (fun _ _ _ h => h) (Or.inl ⟨by rfl, fun w _ => by (go_simp; first | exact ⟨rfl, rfl⟩ | rfl)⟩) (by go_simp <;> with_reducible rfl) ?_
          refine wpAnyU_takeP (i := 29) (v := _) rfl (by decide) (by kernel_rfl) (by kernel_rfl) (by kernel_rfl) (fun _ _ _ h => h) (Or.inl ⟨by rfl, fun w _ => by (go_simp; first | exact ⟨rfl, rfl⟩ | rfl)⟩) (by go_simp <;> with_reducible rfl) ?_
          refine wpAnyU_takeP (i := 30) (v := _) rfl (by decide) (by kernel_rfl) (by kernel_rfl) (by kernel_rfl) (fun _ _ _ h => h) (Or.inl ⟨by rfl, fun w _ => by (go_simp; first | exact ⟨rfl, rfl⟩ | rfl)⟩) (by go_simp <;> with_reducible rfl) ?_
          refine wpAnyU_readyV (by kernel_rfl) (rs := [31]) (by kernel_rfl) (by simp) ?_
          refine (AllReadyU.cons rfl (fun K hK => ?_) AllReadyU.nil)
          go_simp
          refine hK _ _ ?_
          clear hK K
          refine genUv (R2 B g nf wr ⟨vb, vc, vw⟩ _ _ _ _ _) H.st2 ?_
          clear H f1 d1
          intro wz H
          obtain ⟨d0, d1, d2, _, fr⟩ := H.box.cells
          have f2 := fr 2
          dsimp only at d2
          clear fr d0 d1
          refine wpAnyU_takeP (i := 32) (v := _) rfl (by decide) (by kernel_rfl) (by kernel_rfl) (by kernel_rfl) (fun _ _ _ h => h) (Or.inl ⟨by rfl, fun w _ => by (go_simp; first | exact ⟨rfl, rfl⟩ | rfl)⟩) (by go_simp <;> with_reducible rfl) ?_
          refine wpAnyU_takeP (i := 33) (v := _) rfl (by decide) (by kernel_rfl) (by kernel_rfl) (by kernel_rfl) (fun _ _ _ h => h) (Or.inl ⟨by rfl, fun w _ => by (go_simp; first | exact ⟨rfl, rfl⟩ | rfl)⟩) (by go_simp <;> with_reducible rfl) ?_
          refine wpAnyU_takeP (i := 34) (v := _) rfl (by decide) (by kernel_rfl) (by kernel_rfl) (by kernel_rfl) (fun _ _ _ h => h) (Or.inl ⟨by rfl, fun w _ => by (go_simp; first | exact ⟨rfl, rfl⟩ | rfl)⟩) (by go_simp <;> with_reducible rfl) ?_
          refine wpAnyU_readyV (by kernel_rfl) (rs := [35]) (by kernel_rfl) (by simp) ?_
          refine (AllReadyU.cons rfl (fun K hK => ?_) AllReadyU.nil)
          go_simp
          refine hK _ _ ?_
          clear hK K
          refine genUv (R2 B g nf wr ⟨vb, vc, vw⟩ _ _ _ _ _) H.st3 ?_
          clear H f2 d2
          intro wz H
          refine wpAnyU_done (by kernel_rfl) (by kernel_rfl) (by go_simp <;> with_reducible rfl) ?_
          have H := Lib.hid H
          repeat' (first | go_values | go_skip | go_guarded | go_step | go_upon)
          go_roundg (gk - 1)
          case measure => omega
          case rel =>
            refine ⟨j + 1, _, by omega, by omega, Lib.hid ⟨?_, ?_, hE⟩, Lib.hid (HS.out.trans H.out.st)⟩
            · have := H.out.box
              rw [Hnf.out] at this
              exact this
            · have := H.out.row
              unfold TM.grow
              dsimp only
              rw [grow_snoc _ _ _ (by rw [H1.out]; exact hj), grow_snoc _ _ _ (by rw [← HL.out]; exact hj), grow_snoc _ _ _ (by rw [H2.out]; exact hj)]
              exact this
    · have hge : (N : Int) ≤ j := by omega
      have HE := Lib.hid (show M.grow j = M.grow N by
        unfold TM.grow
        by_cases hNL : N ≤ L
        · obtain rfl : j = L := by omega
          rw [grow_self _ _ _ (by rw [H1.out]; exact Nat.le_refl _), grow_self _ _ _ (by rw [← HL.out]; exact Nat.le_refl _), grow_self _ _ _ (by rw [H2.out]; exact Nat.le_refl _), grow_self _ _ _ (by rw [H1.out]; exact hNL), grow_self _ _ _ (by rw [← HL.out]; exact hNL), grow_self _ _ _ (by rw [H2.out]; exact hNL)]
        · rw [show j = N by omega])
      repeat' (first | go_values | go_skip | go_guarded | go_step | go_upon)
      go_end0
      refine ⟨_, ⟨_, rfl⟩, ?_, HS.out⟩
      rw [← HE.out]
      exact HA.out
end Go.Proofs.Ytndekogkfbhabaa
