/- Memory of the maker of a double array: its box, its three rows, and what its steps leave alone. No conditions. -/
import Derived.Test.YtndekogkfbhabaaAppInt
import Derived.Test.YtndekogkfbhabaaTriSpec
namespace Go.Proofs.Ytndekogkfbhabaa
open Go.RowKit
/-- the maker's three rows as they lie -/
structure MV where
  b : Value
  c : Value
  w : Value
/-- a block that the maker writes -/
def Tch (g : Nat) (v : MV) (k : Nat) : Prop := k = g ∨ v.b.ownBlock = some k ∨ v.c.ownBlock = some k ∨ v.w.ownBlock = some k
structure MkR (B : Nat) (w : World) (lb lc lw : List Int) (v : MV) : Prop where
  ob : OwnI B 3 .i64 w v.b lb
  oc : OwnI B 3 .i64 w v.c lc
  ow : OwnI B 3 .i64 w v.w lw
  bc : ∀ q, v.b.ownBlock = some q → v.c.ownBlock ≠ some q
  bw : ∀ q, v.b.ownBlock = some q → v.w.ownBlock ≠ some q
  cw : ∀ q, v.c.ownBlock = some q → v.w.ownBlock ≠ some q
/-- the maker's box -/
def MkB (w : World) (g : Nat) (v : MV) (n : Nat) : Prop := w.heap[g]? = some (.cells #[v.b, v.c, v.w, .int .i64 n] 45 (0, 0))
/-- one step, or many, of the maker: only its blocks turn, and new ones are laid -/
structure MSt (B g : Nat) (v v' : MV) (w w' : World) : Prop where
  bel : Below B w w'
  keep : ∀ k, k < w.heap.size → ¬ Tch g v k → w'.heap[k]? = w.heap[k]?
  tch : ∀ k, Tch g v' k → Tch g v k ∨ w.heap.size ≤ k
section
variable {B g : Nat} {v v' v'' : MV} {w w' w'' : World} {lb lc lw : List Int}
theorem MSt.refl (B g : Nat) (v : MV) (w : World) : MSt B g v v w w := ⟨Below.refl _ _, fun _ _ _ => rfl, fun _ h => .inl h⟩
theorem MSt.trans (h : MSt B g v v' w w') (h' : MSt B g v' v'' w' w'') : MSt B g v v'' w w'' :=
  ⟨h.bel.trans h'.bel, fun k hk hn => by
    rw [h'.keep k (Nat.lt_of_lt_of_le hk h.bel.size) fun q => ?_, h.keep k hk hn]
    rcases h.tch k q with q | q
    · exact hn q
    · omega, fun k hk => by
    rcases h'.tch k hk with q | q
    · exact h.tch k q
    · exact .inr (Nat.le_trans h.bel.size q)⟩
theorem MSt.of_below (hb : Below w.heap.size w w') (hB : B ≤ w.heap.size) : MSt B g v v w w' := ⟨hb.mono hB, fun k hk _ => hb.block k hk, fun _ h => .inl h⟩
theorem MSt.cell {q o : Nat} {u : Value} (hq : Tch g v q) (hB : B ≤ q) : MSt B g v v w (w.setCell ⟨q, o, none⟩ u) :=
  ⟨(Below.refl _ _).setCell hB _, fun k _ hn => Below.heap_setCell _ _ _ _ (fun e => hn (by dsimp only at e; rw [e]; exact hq)), fun _ h => .inl h⟩
theorem MkB.lt {n : Nat} (h : MkB w g v n) : g < w.heap.size := (Array.getElem?_eq_some_iff.1 h).1
theorem MkB.keep {n : Nat} (h : MkB w g v n) (hb : Below w.heap.size w w') : MkB w' g v n := by unfold MkB; rw [hb.block g h.lt]; exact h
theorem MkR.keep (h : MkR B w lb lc lw v) (hb : Below w.heap.size w w') : MkR B w' lb lc lw v := ⟨h.ob.keep hb (Nat.le_refl _), h.oc.keep hb (Nat.le_refl _), h.ow.keep hb (Nat.le_refl _), h.bc, h.bw, h.cw⟩
theorem MkR.other {q o : Nat} {u : Value} (h : MkR B w lb lc lw v) (hq : v.b.ownBlock ≠ some q ∧ v.c.ownBlock ≠ some q ∧ v.w.ownBlock ≠ some q) : MkR B (w.setCell ⟨q, o, none⟩ u) lb lc lw v := by
  have F : ∀ {x : Value} {l : List Int}, x.ownBlock ≠ some q → OwnI B 3 .i64 w x l → OwnI B 3 .i64 (w.setCell ⟨q, o, none⟩ u) x l := fun {x l} hne ho =>
    OwnC.block ho fun k hk => Below.heap_setCell _ _ _ _ (fun e => hne (by dsimp only at e; rw [← e]; exact hk))
  exact ⟨F hq.1 h.ob, F hq.2.1 h.oc, F hq.2.2 h.ow, h.bc, h.bw, h.cw⟩
/-- the box is none of the rows -/
theorem MkR.ne_box (h : MkR B w lb lc lw v) {u : MV} {n : Nat} (hb : MkB w g u n) : v.b.ownBlock ≠ some g ∧ v.c.ownBlock ≠ some g ∧ v.w.ownBlock ≠ some g := by
  have F : ∀ {x : Value} {l : List Int}, OwnI B 3 .i64 w x l → x.ownBlock ≠ some g := fun {x l} ho e => by
    obtain ⟨cs, fz, hc⟩ := own_typedV ho e
    exact ty_ne hb hc (by decide) rfl
  exact ⟨F h.ob, F h.oc, F h.ow⟩
theorem own_grownI {B : Nat} {e : TypeId} {k : IntKind} {w w' : World} {x y : Value} {l : List Int} (ho : OwnI B e k w x l) (hg : w.grownBy w' y.ownBlock) (hne : ∀ q, y.ownBlock = some q → x.ownBlock ≠ some q) : OwnI B e k w' x l :=
  OwnC.block ho fun q hq => hg.block q (OwnC.lt ho q hq).2 fun e1 => hne q e1.symm hq
theorem where_apart {B : Nat} {e : TypeId} {k : IntKind} {w : World} {x y y' : Value} {l : List Int} (ho : OwnI B e k w x l) (hw : WhereD w y y') (hne : ∀ q, y.ownBlock = some q → x.ownBlock ≠ some q) : ∀ q, y'.ownBlock = some q → x.ownBlock ≠ some q := fun q hq e1 => by
  rcases hw with hw | ⟨g', hw, hs⟩
  · exact hne q (by rw [← hw]; exact hq) e1
  · rw [hw] at hq; injection hq with hq
    have := (OwnC.lt ho q e1).2
    omega
theorem MkB.grown {n : Nat} {x : Value} (h : MkB w g v n) (hg : w.grownBy w' x.ownBlock) (hne : x.ownBlock ≠ some g) : MkB w' g v n := by
  unfold MkB
  rw [hg.block g h.lt fun e => hne e.symm]
  exact h
theorem MSt.grow {x : Value} (hg : w.grownBy w' x.ownBlock) (hx : ∀ q, x.ownBlock = some q → Tch g v q ∧ B ≤ q) (hB : B ≤ w.heap.size) (ht : ∀ k, Tch g v' k → Tch g v k ∨ w.heap.size ≤ k) : MSt B g v v' w w' :=
  ⟨(Below.refl _ _).grown hg hB fun q hq => (hx q hq).2, fun k hk hn => hg.block k hk fun e => hn (hx k e.symm).1, ht⟩
/-- the first row has grown -/
theorem MkR.appB (h : MkR B w lb lc lw v) {x : Value} {l : List Int} (ho : OwnI B 3 .i64 w' x l) (hg : w.grownBy w' v.b.ownBlock) (hw : WhereD w v.b x) (hB : B ≤ w.heap.size) :
    MkR B w' l lc lw ⟨x, v.c, v.w⟩ ∧ MSt B g v ⟨x, v.c, v.w⟩ w w' := by
  refine ⟨⟨ho, own_grownI h.oc hg h.bc, own_grownI h.ow hg h.bw, where_apart h.oc hw h.bc, where_apart h.ow hw h.bw, h.cw⟩, MSt.grow hg (fun q hq => ⟨.inr (.inl hq), h.ob.below hq⟩) hB fun k hk => ?_⟩
  rcases hk with hk | hk | hk | hk
  · exact .inl (.inl hk)
  · rcases hw with hw | ⟨g', hw, hs⟩
    · exact .inl (.inr (.inl (by rw [← hw]; exact hk)))
    · dsimp only at hk
      rw [hw] at hk; injection hk with hk
      exact .inr (by omega)
  · exact .inl (.inr (.inr (.inl hk)))
  · exact .inl (.inr (.inr (.inr hk)))
theorem MkR.appC (h : MkR B w lb lc lw v) {x : Value} {l : List Int} (ho : OwnI B 3 .i64 w' x l) (hg : w.grownBy w' v.c.ownBlock) (hw : WhereD w v.c x) (hB : B ≤ w.heap.size) :
    MkR B w' lb l lw ⟨v.b, x, v.w⟩ ∧ MSt B g v ⟨v.b, x, v.w⟩ w w' := by
  have hbc : ∀ q, v.c.ownBlock = some q → v.b.ownBlock ≠ some q := fun q h1 h2 => h.bc q h2 h1
  refine ⟨⟨own_grownI h.ob hg hbc, ho, own_grownI h.ow hg h.cw, fun q h1 h2 => where_apart h.ob hw hbc q h2 h1, h.bw, where_apart h.ow hw h.cw⟩, MSt.grow hg (fun q hq => ⟨.inr (.inr (.inl hq)), h.oc.below hq⟩) hB fun k hk => ?_⟩
  rcases hk with hk | hk | hk | hk
  · exact .inl (.inl hk)
  · exact .inl (.inr (.inl hk))
  · rcases hw with hw | ⟨g', hw, hs⟩
    · exact .inl (.inr (.inr (.inl (by rw [← hw]; exact hk))))
    · dsimp only at hk
      rw [hw] at hk; injection hk with hk
      exact .inr (by omega)
  · exact .inl (.inr (.inr (.inr hk)))
theorem MkR.appW (h : MkR B w lb lc lw v) {x : Value} {l : List Int} (ho : OwnI B 3 .i64 w' x l) (hg : w.grownBy w' v.w.ownBlock) (hw : WhereD w v.w x) (hB : B ≤ w.heap.size) :
    MkR B w' lb lc l ⟨v.b, v.c, x⟩ ∧ MSt B g v ⟨v.b, v.c, x⟩ w w' := by
  have hbw : ∀ q, v.w.ownBlock = some q → v.b.ownBlock ≠ some q := fun q h1 h2 => h.bw q h2 h1
  have hcw : ∀ q, v.w.ownBlock = some q → v.c.ownBlock ≠ some q := fun q h1 h2 => h.cw q h2 h1
  refine ⟨⟨own_grownI h.ob hg hbw, own_grownI h.oc hg hcw, ho, h.bc, fun q h1 h2 => where_apart h.ob hw hbw q h2 h1, fun q h1 h2 => where_apart h.oc hw hcw q h2 h1⟩, MSt.grow hg (fun q hq => ⟨.inr (.inr (.inr hq)), h.ow.below hq⟩) hB fun k hk => ?_⟩
  rcases hk with hk | hk | hk | hk
  · exact .inl (.inl hk)
  · exact .inl (.inr (.inl hk))
  · exact .inl (.inr (.inr (.inl hk)))
  · rcases hw with hw | ⟨g', hw, hs⟩
    · exact .inl (.inr (.inr (.inr (by rw [← hw]; exact hk))))
    · dsimp only at hk
      rw [hw] at hk; injection hk with hk
      exact .inr (by omega)
/-- a number of a row is set -/
theorem own_setI {B : Nat} {e : TypeId} {k : IntKind} {w : World} {q n cap : Nat} {l : List Int} (h : OwnI B e k w (.slice (some ⟨q, 0, none⟩) n cap) l) (hn : n = l.length) (i : Nat) (x : Int) :
    OwnI B e k (w.setCell ⟨q, i, none⟩ (.int k x)) (.slice (some ⟨q, 0, none⟩) n cap) (l.set i x) := by
  subst hn
  unfold OwnI at h ⊢
  have := OwnC.store h i (.int k x)
  rw [List.length_set, List.map_set]
  exact this
theorem own_ne {B : Nat} {e : TypeId} {k : IntKind} {w : World} {x : Value} {l : List Int} {q o : Nat} {u : Value} (h : OwnI B e k w x l) (hne : x.ownBlock ≠ some q) : OwnI B e k (w.setCell ⟨q, o, none⟩ u) x l :=
  OwnC.block h fun k hk => Below.heap_setCell _ _ _ _ (fun e => hne (by dsimp only at e; rw [← e]; exact hk))
theorem MkR.setB (h : MkR B w lb lc lw v) {q cap : Nat} (hv : v.b = .slice (some ⟨q, 0, none⟩) lb.length cap) (i : Nat) (x : Int) :
    MkR B (w.setCell ⟨q, i, none⟩ (.int .i64 x)) (lb.set i x) lc lw v ∧ MSt B g v v w (w.setCell ⟨q, i, none⟩ (.int .i64 x)) := by
  have hq : v.b.ownBlock = some q := by rw [hv]; rfl
  have ho := h.ob
  rw [hv] at ho
  refine ⟨⟨by rw [hv]; exact own_setI ho rfl i x, own_ne h.oc (h.bc q hq), own_ne h.ow (h.bw q hq), h.bc, h.bw, h.cw⟩, MSt.cell (.inr (.inl hq)) (h.ob.below hq)⟩
theorem MkR.setC (h : MkR B w lb lc lw v) {q cap : Nat} (hv : v.c = .slice (some ⟨q, 0, none⟩) lc.length cap) (i : Nat) (x : Int) :
    MkR B (w.setCell ⟨q, i, none⟩ (.int .i64 x)) lb (lc.set i x) lw v ∧ MSt B g v v w (w.setCell ⟨q, i, none⟩ (.int .i64 x)) := by
  have hq : v.c.ownBlock = some q := by rw [hv]; rfl
  have ho := h.oc
  rw [hv] at ho
  refine ⟨⟨own_ne h.ob (fun e => h.bc q e hq), by rw [hv]; exact own_setI ho rfl i x, own_ne h.ow (h.cw q hq), h.bc, h.bw, h.cw⟩, MSt.cell (.inr (.inr (.inl hq))) (h.oc.below hq)⟩
theorem MkR.setW (h : MkR B w lb lc lw v) {q cap : Nat} (hv : v.w = .slice (some ⟨q, 0, none⟩) lw.length cap) (i : Nat) (x : Int) :
    MkR B (w.setCell ⟨q, i, none⟩ (.int .i64 x)) lb lc (lw.set i x) v ∧ MSt B g v v w (w.setCell ⟨q, i, none⟩ (.int .i64 x)) := by
  have hq : v.w.ownBlock = some q := by rw [hv]; rfl
  have ho := h.ow
  rw [hv] at ho
  refine ⟨⟨own_ne h.ob (fun e => h.bw q e hq), own_ne h.oc (fun e => h.cw q e hq), by rw [hv]; exact own_setI ho rfl i x, h.bc, h.bw, h.cw⟩, MSt.cell (.inr (.inr (.inr hq))) (h.ow.below hq)⟩
theorem MkB.setOther {n q o : Nat} {u : Value} (h : MkB w g v n) (hne : q ≠ g) : MkB (w.setCell ⟨q, o, none⟩ u) g v n := by
  unfold MkB
  rw [Below.heap_setCell _ _ _ _ (by dsimp only; exact fun e => hne e.symm)]
  exact h
/-- the box's cells -/
theorem MkB.cells {n : Nat} (h : MkB w g v n) : w.cell? ⟨g, 0, none⟩ = some v.b ∧ w.cell? ⟨g, 1, none⟩ = some v.c ∧ w.cell? ⟨g, 2, none⟩ = some v.w ∧ w.cell? ⟨g, 3, none⟩ = some (.int .i64 n) ∧ ∀ k, w.frozen? ⟨g, k, none⟩ = false :=
  ⟨by rw [cell_of_row w g 0 _ _ _ h]; rfl, by rw [cell_of_row w g 1 _ _ _ h]; rfl, by rw [cell_of_row w g 2 _ _ _ h]; rfl, by rw [cell_of_row w g 3 _ _ _ h]; rfl, fun k => frozen_of_row _ _ _ _ _ h⟩
theorem MkB.set {n : Nat} (h : MkB w g v n) (o : Nat) (u : Value) {v' : MV} {n' : Nat} (he : #[v.b, v.c, v.w, .int .i64 n].setIfInBounds o u = #[v'.b, v'.c, v'.w, .int .i64 n']) : MkB (w.setCell ⟨g, o, none⟩ u) g v' n' := by
  unfold MkB
  rw [setCell_eq_setRow w g o _ _ _ _ h, ← he]
  exact setRow_heap _ _ _ _ _ _ h
/-- the maker -/
structure MkAt (B g : Nat) (w : World) (M : TM) (v : MV) : Prop where
  box : MkB w g v M.free
  row : MkR B w M.b M.c M.w v
  gB : B ≤ g
theorem MkAt.size {M : TM} (h : MkAt B g w M v) : B ≤ w.heap.size := Nat.le_of_lt (Nat.lt_of_le_of_lt h.gB h.box.lt)
theorem MkAt.keep {M : TM} (h : MkAt B g w M v) (hb : Below w.heap.size w w') : MkAt B g w' M v := ⟨h.box.keep hb, h.row.keep hb, h.gB⟩
/-- what is no block of the maker's is set -/
theorem MkAt.other {M : TM} {q o : Nat} {u : Value} (h : MkAt B g w M v) (hq : ¬ Tch g v q) : MkAt B g (w.setCell ⟨q, o, none⟩ u) M v :=
  ⟨h.box.setOther fun e => hq (.inl e), h.row.other ⟨fun e => hq (.inr (.inl e)), fun e => hq (.inr (.inr (.inl e))), fun e => hq (.inr (.inr (.inr e)))⟩, h.gB⟩
end
end Go.Proofs.Ytndekogkfbhabaa
