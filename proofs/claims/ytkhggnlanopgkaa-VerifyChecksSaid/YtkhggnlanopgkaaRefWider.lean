/- Plain: a state that holds ranges more (the reference's wider). No conditions. -/
import Derived.Test.YtkhggnlanopgkaaVerSpec
import Derived.Test.YtkhggnlanopgkaaRefGoesAll
import Derived.Test.YtkhggnlanopgkaaOwnRows
namespace Go.Proofs.Ytkhggnlanopgkaa
open Go.RowKit
/-- the state that holds o and q, and whether it is wider than o -/
def widR (o : Option Rg) (q : Rg) : Rg := match o with
  | none => q
  | some s => joinR s q
def widB (o : Option Rg) (q : Rg) : Bool := match o with
  | none => true
  | some s => decide (joinR s q ≠ s)
theorem widR_len {o : Option Rg} {q : Rg} (hq : q.length = 8) (ho : ∀ s, o = some s → s.length = 8) : (widR o q).length = 8 := by
  cases o with
  | none => exact hq
  | some s => exact joinR_len (ho s rfl) hq
theorem widR_get {o : Option Rg} {q : Rg} (hq : q.length = 8) (ho : ∀ s, o = some s → s.length = 8) {k : Nat} (hk : k < 8) : rget (widR o q) k = match o with | none => rget q k | some s => jn (rget s k) (rget q k) := by
  cases o with
  | none => rfl
  | some s => exact joinR_get (ho s rfl) hq hk
end Go.Proofs.Ytkhggnlanopgkaa
/- Walk: a state that holds ranges more, by the reference. Conditions: state and ranges lie in memory. -/
namespace Go.Proofs.Ytkhggnlanopgkaa
open Go.RowKit
/-- whether it became wider, after k ranges -/
def widN (o : Option Rg) (q : Rg) (k : Nat) : Bool := match o with
  | none => true
  | some s => (List.range k).any fun i => decide (jn (rget s i) (rget q i) ≠ rget s i)
theorem widN_zero (o : Option Rg) (q : Rg) : widN o q 0 = !o.isSome := by cases o <;> rfl
theorem widN_succ (s q : Rg) (k : Nat) : widN (some s) q (k + 1) = (widN (some s) q k || decide (jn (rget s k) (rget q k) ≠ rget s k)) := by
  simp [widN, List.range_succ]
theorem widN_all (o : Option Rg) (q : Rg) (hq : q.length = 8) (ho : ∀ s, o = some s → s.length = 8) : widN o q 8 = widB o q := by
  cases o with
  | none => rfl
  | some s =>
    have hs := ho s rfl
    rw [Bool.eq_iff_iff]
    simp only [widN, widB, List.any_eq_true, List.mem_range, decide_eq_true_eq]
    constructor
    · rintro ⟨i, hi, h⟩ e
      rw [← joinR_get hs hq hi, e] at h
      exact h rfl
    · intro h
      refine Classical.byContradiction fun hn => h ?_
      apply List.ext_getElem (by rw [joinR_len hs hq, hs])
      intro i h1 h2
      have a1 : rget (joinR s q) i = (joinR s q)[i] := by simp [rget, List.getD, List.getElem?_eq_getElem h1]
      have a2 : rget s i = s[i] := by simp [rget, List.getD, List.getElem?_eq_getElem h2]
      rw [← a1, ← a2, joinR_get hs hq (by omega)]
      exact Classical.byContradiction fun hc => hn ⟨i, by omega, hc⟩
/-- what the loop has laid after k ranges -/
def widL (o : Option Rg) (q : Rg) (k : Nat) : Rg := (widR o q).take k
theorem widL_succ {o : Option Rg} {q : Rg} (hq : q.length = 8) (ho : ∀ s, o = some s → s.length = 8) {k : Nat} (hk : k < 8) : widL o q (k + 1) = widL o q k ++ [rget (widR o q) k] := by
  have h : k < (widR o q).length := by rw [widR_len hq ho]; exact hk
  unfold widL
  rw [List.take_add_one, List.getElem?_eq_getElem h]
  simp [rget, List.getD, List.getElem?_eq_getElem h]
theorem widL_all {o : Option Rg} {q : Rg} (hq : q.length = 8) (ho : ∀ s, o = some s → s.length = 8) : widL o q 8 = widR o q := by
  unfold widL; exact List.take_of_length_le (by rw [widR_len hq ho]; exact Nat.le_refl _)
theorem widL_len {o : Option Rg} {q : Rg} (hq : q.length = 8) (ho : ∀ s, o = some s → s.length = 8) {k : Nat} (hk : k ≤ 8) : (widL o q k).length = k := by
  unfold widL; rw [List.length_take, widR_len hq ho]; omega
/-- a variable that holds a state -/
def StBox (w : World) (g : Nat) (b : Bool) (v : Value) : Prop := w.heap[g]? = some (.cells #[.bool b, v] 74 (0, 0))
theorem StBox.lt {w : World} {g : Nat} {b : Bool} {v : Value} (h : StBox w g b v) : g < w.heap.size := (Array.getElem?_eq_some_iff.1 h).1
theorem StBox.keep {w w' : World} {g : Nat} {b : Bool} {v : Value} (h : StBox w g b v) (hb : Below w.heap.size w w') : StBox w' g b v := by
  unfold StBox; rw [hb.block g h.lt]; exact h
theorem StBox.two {w : World} {g : Nat} {b : Bool} {v : Value} (h : StBox w g b v) : w.cell? ⟨g, 0, none⟩ = some (.bool b) ∧ w.cell? ⟨g, 1, none⟩ = some v := ⟨cell_of_row w g 0 _ _ _ h, cell_of_row w g 1 _ _ _ h⟩
theorem StBox.free {w : World} {g : Nat} {b : Bool} {v : Value} (h : StBox w g b v) (k : Nat) : w.frozen? ⟨g, k, none⟩ = false := frozen_of_row _ _ _ _ _ h
theorem StBox.new (w : World) (b : Bool) (v : Value) : StBox (w.alloc (.cells #[.bool b, v] 74)) w.heap.size b v := Go.heap_alloc_new _ _
theorem info_st : (Try.prog.info? 74).map (fun i => i.size) = some 2 := by kernel_rfl
/-- the call's own variables -/
structure WQ (w0 : World) (b : Bool) (vs : Value) (A : Int × Int) (vo : Value) (acc : Rg) (w : World) : Prop where
  bel : Below w0.heap.size w0 w
  s : StBox w w0.heap.size b vs
  a : SpAt w (w0.heap.size + 1) A
  r : StBox w (w0.heap.size + 1 + 1) false (.slice none 0 0)
  o : StBox w (w0.heap.size + 1 + 1 + 1) true vo
  own : OwnR spC 2 (w0.heap.size + 1 + 1 + 1 + 1) 97 w vo acc
theorem WQ.start (w : World) (b : Bool) (vs : Value) (A : Int × Int) : WQ w b vs A (.slice none 0 0) [] ((((w.alloc (.cells #[.bool b, vs] 74)).alloc (.cells #[.int .i64 A.1, .int .i64 A.2] 97)).alloc (.cells #[.bool false, .slice none 0 0] 74)).alloc (.cells #[.bool true, .slice none 0 0] 74)) := by
  have al : ∀ (w : World) (o : Obj), Below w.heap.size w (w.alloc o) := fun w o => (Below.refl _ _).alloc (Nat.le_refl _) _
  have h0 := StBox.new w b vs
  have h1 := SpAt.new (w.alloc (.cells #[.bool b, vs] 74)) A
  have h2 := StBox.new ((w.alloc (.cells #[.bool b, vs] 74)).alloc (.cells #[.int .i64 A.1, .int .i64 A.2] 97)) false (.slice none 0 0)
  have h3 := StBox.new (((w.alloc (.cells #[.bool b, vs] 74)).alloc (.cells #[.int .i64 A.1, .int .i64 A.2] 97)).alloc (.cells #[.bool false, .slice none 0 0] 74)) true (.slice none 0 0)
  rw [World.size_alloc] at h1
  rw [World.size_alloc, World.size_alloc] at h2
  rw [World.size_alloc, World.size_alloc, World.size_alloc] at h3
  exact ⟨((((Below.refl _ _).alloc (Nat.le_refl _) _).alloc (by simp) _).alloc (by simp; omega) _).alloc (by simp; omega) _, ((h0.keep (al _ _)).keep (al _ _)).keep (al _ _), (h1.keep (al _ _)).keep (al _ _), h2.keep (al _ _), h3, OwnR.nil⟩
theorem StBox.put1 {w : World} {g : Nat} {b : Bool} {v : Value} (h : StBox w g b v) (x : Value) : StBox (w.setCell ⟨g, 1, none⟩ x) g b x := by
  unfold StBox at h ⊢
  rw [setCell_eq_setRow w g 1 _ _ _ x h, setRow_heap _ _ _ _ _ _ h]; simp
theorem StBox.put0 {w : World} {g : Nat} {b : Bool} {v : Value} (h : StBox w g b v) (x : Bool) : StBox (w.setCell ⟨g, 0, none⟩ (.bool x)) g x v := by
  unfold StBox at h ⊢
  rw [setCell_eq_setRow w g 0 _ _ _ (.bool x) h, setRow_heap _ _ _ _ _ _ h]; simp
theorem StBox.putS {w : World} {g : Nat} {b : Bool} {v : Value} (h : StBox w g b v) (x : Bool) (y : Value) : StBox ((w.setCell ⟨g, 0, none⟩ (.bool x)).setCell ⟨g, 1, none⟩ y) g x y := (h.put0 x).put1 y
theorem StBox.oth {w : World} {g g' k : Nat} {b : Bool} {v : Value} {x : Value} (h : StBox w g b v) (hg : g ≠ g') : StBox (w.setCell ⟨g', k, none⟩ x) g b v := by
  unfold StBox at h ⊢
  rw [heap_setCell_other _ _ _ _ (by exact hg)]; exact h
theorem StBox.keepB {w w' : World} {B g : Nat} {b : Bool} {v : Value} (h : StBox w g b v) (hb : Below B w w') (hg : g < B) : StBox w' g b v := by
  unfold StBox; rw [hb.block g hg]; exact h
theorem SpAt.keepB {w w' : World} {B g : Nat} {s : Int × Int} (h : SpAt w g s) (hb : Below B w w') (hg : g < B) : SpAt w' g s := by
  unfold SpAt; rw [hb.block g hg]; exact h
theorem WQ.size {w0 w : World} {b : Bool} {vs vo : Value} {A : Int × Int} {acc : Rg} (h : WQ w0 b vs A vo acc w) : w0.heap.size + 1 + 1 + 1 + 1 ≤ w.heap.size := h.o.lt
/-- the row has grown -/
theorem WQ.grow {w0 w w' : World} {b : Bool} {vs vo v' : Value} {A : Int × Int} {acc acc' : Rg} (h : WQ w0 b vs A vo acc w) (hb : Below (w0.heap.size + 1 + 1 + 1 + 1) w w') (ho : OwnR spC 2 (w0.heap.size + 1 + 1 + 1 + 1) 97 w' v' acc') :
    WQ w0 b vs A v' acc' (w'.setCell ⟨w0.heap.size + 1 + 1 + 1, 1, none⟩ v') :=
  ⟨(h.bel.trans (hb.mono (by omega))).setCell (by dsimp only; omega) _, (h.s.keepB hb (by omega)).oth (by omega), by
    have := h.a.keepB hb (by omega)
    exact this.oth (by omega), (h.r.keepB hb (by omega)).oth (by omega), (h.o.keepB hb (by omega)).put1 _, ho.setOther fun k hk => by have := (ho.below hk).1; omega⟩
theorem WQ.step {w0 w w' : World} {b : Bool} {vs vo : Value} {A : Int × Int} {acc : Rg} (h : WQ w0 b vs A vo acc w) (hb : Below w.heap.size w w') : WQ w0 b vs A vo acc w' :=
  ⟨h.bel.trans (hb.mono h.bel.size), h.s.keep hb, h.a.keep hb, h.r.keep hb, h.o.keep hb, h.own.keep hb (Nat.le_refl _)⟩
theorem WQ.al {w0 w : World} {b : Bool} {vs vo : Value} {A : Int × Int} {acc : Rg} (h : WQ w0 b vs A vo acc w) (o : Obj) : WQ w0 b vs A vo acc (w.alloc o) := h.step ((Below.refl _ _).alloc (Nat.le_refl _) _)
theorem OwnR.form3 {α : Type} {f : α → List Value} {sz B : Nat} {e : TypeId} {w : World} {v : Value} {l : List α} (h : OwnR f sz B e w v l) : ∃ a n cap, v = .slice a n cap := by
  obtain ⟨a, c, e, _⟩ := h.form
  exact ⟨a, _, c, e⟩
theorem results_wider {fn : Func} (h : fn.results = #[.cell 8 74, .tmp 9]) (tmps : Array Value) (w : World) (g8 : Nat) (n : Value) (b : Bool) (v : Value)
    (h8 : tmps.getD 8 undef = .pointer (some ⟨g8, 0, none⟩)) (h9 : tmps.getD 9 undef = n) (hN : StBox w g8 b v) :
    (results fn tmps).run Try.prog w = .ok (.tuple #[.agg #[.bool b, v], n]) w := by
  have h8' : tmps[8]?.getD undef = .pointer (some ⟨g8, 0, none⟩) := by simpa using h8
  have h9' : tmps[9]?.getD undef = n := by simpa using h9
  have r1 := run_loadVar_row (P := Try.prog) w g8 74 74 #[.bool b, v] (0, 0) _ hN Try.underlying74 rfl info_st
  simp [results, h, h8', h9', asAddr, r1]
theorem info_spans : (Try.prog.info? 97).map (fun i => (i.zero, i.size, i.bytes)) = some (some (.agg #[.int .i64 0, .int .i64 0]), 2, 16) := by kernel_rfl
set_option maxRecDepth 100000 in
set_option maxHeartbeats 4000000 in
theorem ref_wider0 (vs vr : Value) (r : Rg) (at' : Nat) (A : Int × Int) (w : World) (hr : RowOf spC 2 w vr r) (hr8 : r.length = 8) :
    Calls Try.prog 41 #[.agg #[.bool false, vs], vr, .int .i64 at', spV A] w fun e w' => ∃ vo, e = .returned (.tuple #[.agg #[.bool true, vo], .bool true]) ∧ OwnR spC 2 (w.heap.size + 1 + 1 + 1 + 1) 97 w' vo (r.set at' A) ∧ Below w.heap.size w w' := by
  obtain ⟨ar, cr, rfl, hcr, hmr, hcell⟩ := hr.open spC_len
  rw [hr8] at hcr hcell ⊢
  rcases hcell with h0 | ⟨br, or', rfl, hbr, hcell⟩
  · omega
  have Hc : Hid (∀ k, k < 8 → w.cell? ⟨br, or' + k * 2, none⟩ = some (.int .i64 (rget r k).1) ∧ w.cell? ⟨br, or' + k * 2 + 1, none⟩ = some (.int .i64 (rget r k).2)) := Lib.hid fun k hk => sp_cells hcell k (by omega)
  have Hr8 := Lib.hid hr8
  have hq8 : (r.set at' A).length = 8 := by simp [hr8]
  have Hq8 := Lib.hid hq8
  have HQ0 := Lib.hid (WQ.start w false vs A)
  clear hcell hr hr8 hcr hmr hq8
  go_enter Try.func41, Try.ntmps41
  repeat' (first | go_values | go_skip | go_guarded | go_step | go_upon)
  go_loopw [11, 20] (fun s11 s20 wr => ∃ (k : Nat) (vo : Value), s20 = .int .i64 k ∧ s11 = .bool true ∧ k ≤ 8 ∧ Hid (WQ w false vs A vo (widL none (r.set at' A) k) wr)) (fun _ s20 _ => 8 - (intOf s20).toNat)
  case atStart => exact ⟨0, _, rfl, rfl, by decide, HQ0⟩
  case round =>
    clear HQ0
    obtain ⟨k, vo, rfl, rfl, hk, HQ⟩ := hrel
    by_cases hlt : k < 8
    · obtain ⟨c0, c1⟩ := Hc.out k hlt
      rw [← HQ.out.bel.cell (show br < w.heap.size from hbr)] at c0 c1
      have hX : Hid (widL none (r.set at' A) (k + 1) = widL none (r.set at' A) k ++ [if at' = k then A else rget r k]) := Lib.hid (by rw [← rget_set r Hr8.out at' A k hlt]; exact widL_succ Hq8.out (fun s h => by cases h) hlt)
      have Hll : Hid ((widL none (r.set at' A) k).length = k) := Lib.hid (widL_len Hq8.out (fun s h => by cases h) (by omega))
      generalize rget r k = R at c0 c1 hX
      have H1 := Lib.hid (HQ.out.al (.cells #[.int .i64 R.1, .int .i64 R.2] 97))
      obtain ⟨a0, a1⟩ := H1.out.a.two
      by_cases he : at' = k
      · have hX2 : Hid (widL none (r.set at' A) (k + 1) = widL none (r.set at' A) k ++ [A]) := Lib.hid (by rw [hX.out, if_pos he])
        have hke : ((k : Int) == (at' : Int)) = true := by rw [beq_iff_eq]; omega
        have H2 := Lib.hid (HQ.out.al (.cells #[.int .i64 A.1, .int .i64 A.2] 97))
        obtain ⟨s0, s1⟩ := H2.out.s.two
        obtain ⟨o0, o1⟩ := H2.out.o.two
        have hown := H2.out.own
        have hwB := H2.out.size
        clear he hX
        repeat' (first | (at_builtin; go_loud (refine app_one 16 (wr.heap.size + 1) (by simp) A spC_len (by intro y hy; simp [spC] at hy; rcases hy with rfl | rfl <;> rfl) Try.underlying72 info_spans rfl rfl _ _ rfl rfl rfl rfl hown hwB (by rw [Hll.out]; omega) (by rw [Hll.out]; unfold maxLen; omega) ?_); intro v4 w4 hown4 hb4 hk4 _; have O4 := H2.out.o.keepB hb4 (by omega); have o4 := O4.two.2; have f4 := O4.free 1; clear O4; obtain ⟨a4, n4, c4, e4⟩ := hown4.form3; subst e4) | go_values | go_skip | go_guarded | go_step | go_upon)
        rw [← hX2.out] at hown4
        go_roundw
        case rel => exact ⟨k + 1, _, by go_num, rfl, hlt, Lib.hid (H2.out.grow hb4 hown4)⟩
        case measure => simp [intOf]; omega
      · have hX2 : Hid (widL none (r.set at' A) (k + 1) = widL none (r.set at' A) k ++ [R]) := Lib.hid (by rw [hX.out, if_neg he])
        have hke : ((k : Int) == (at' : Int)) = false := by rw [beq_eq_false_iff_ne]; omega
        obtain ⟨s0, s1⟩ := H1.out.s.two
        obtain ⟨o0, o1⟩ := H1.out.o.two
        have hown := H1.out.own
        have hwB := H1.out.size
        clear he hX
        repeat' (first | (at_builtin; go_loud (refine app_one 16 (wr.heap.size + 1) (by simp) R spC_len (by intro y hy; simp [spC] at hy; rcases hy with rfl | rfl <;> rfl) Try.underlying72 info_spans rfl rfl _ _ rfl rfl rfl rfl hown hwB (by rw [Hll.out]; omega) (by rw [Hll.out]; unfold maxLen; omega) ?_); intro v4 w4 hown4 hb4 hk4 _; have O4 := H1.out.o.keepB hb4 (by omega); have o4 := O4.two.2; have f4 := O4.free 1; clear O4; obtain ⟨a4, n4, c4, e4⟩ := hown4.form3; subst e4) | go_values | go_skip | go_guarded | go_step | go_upon)
        rw [← hX2.out] at hown4
        go_roundw
        case rel => exact ⟨k + 1, _, by go_num, rfl, hlt, Lib.hid (H1.out.grow hb4 hown4)⟩
        case measure => simp [intOf]; omega
    · obtain rfl : k = 8 := by omega
      have he := widL_all (q := r.set at' A) (o := none) Hq8.out (fun s h => by cases h)
      rw [he] at HQ
      clear he
      obtain ⟨o0, o1⟩ := HQ.out.o.two
      obtain ⟨r0, r1⟩ := HQ.out.r.two
      have f0 := HQ.out.r.free 0
      have f1 := HQ.out.r.free 1
      obtain ⟨a4, n4, c4, e4⟩ := HQ.out.own.form3
      subst e4
      repeat' (first | go_values | go_skip | go_guarded | go_step | go_upon)
      refine bodyPost_ret (results_wider rfl _ _ (w.heap.size + 1 + 1) (.bool true) true (.slice a4 n4 c4) rfl rfl (HQ.out.r.putS _ _)) rfl ⟨_, rfl, ?_, ?_⟩
      · refine OwnR.setOther (OwnR.setOther HQ.out.own ?_) ?_
        · intro k hk; have := (HQ.out.own.below hk).1; omega
        · intro k hk; have := (HQ.out.own.below hk).1; omega
      · exact (HQ.out.bel.setCell (by dsimp only; omega) _).setCell (by dsimp only; omega) _
end Go.Proofs.Ytkhggnlanopgkaa
/- Walk: a state that holds ranges more, by the reference: the state holds some. Conditions: state and ranges lie in memory. -/
namespace Go.Proofs.Ytkhggnlanopgkaa
open Go.RowKit
theorem WQ.drw {w0 w : World} {b : Bool} {vs vo : Value} {A : Int × Int} {acc : Rg} (h : WQ w0 b vs A vo acc w) : WQ w0 b vs A vo acc w.drew := h.step ((Below.refl _ _).drew)
set_option maxRecDepth 100000 in
set_option maxHeartbeats 8000000 in
theorem ref_wider1 (vs vr : Value) (s r : Rg) (at' : Nat) (A : Int × Int) (w : World) (hs : RowOf spC 2 w vs s) (hs8 : s.length = 8) (hr : RowOf spC 2 w vr r) (hr8 : r.length = 8) :
    Calls Try.prog 41 #[.agg #[.bool true, vs], vr, .int .i64 at', spV A] w fun e w' => ∃ vo, e = .returned (.tuple #[.agg #[.bool true, vo], .bool (widB (some s) (r.set at' A))]) ∧ OwnR spC 2 (w.heap.size + 1 + 1 + 1 + 1) 97 w' vo (joinR s (r.set at' A)) ∧ Below w.heap.size w w' := by
  obtain ⟨ar, cr, rfl, hcr, hmr, hcell⟩ := hr.open spC_len
  rw [hr8] at hcr hcell ⊢
  rcases hcell with h0 | ⟨br, or', rfl, hbr, hcell⟩
  · omega
  obtain ⟨as', cs, rfl, hcs, hms, hcels⟩ := hs.open spC_len
  rw [hs8] at hcs hcels ⊢
  rcases hcels with h0 | ⟨bs, os, rfl, hbs, hcels⟩
  · omega
  have Hc : Hid (∀ k, k < 8 → w.cell? ⟨br, or' + k * 2, none⟩ = some (.int .i64 (rget r k).1) ∧ w.cell? ⟨br, or' + k * 2 + 1, none⟩ = some (.int .i64 (rget r k).2)) := Lib.hid fun k hk => sp_cells hcell k (by omega)
  have Hd : Hid (∀ k, k < 8 → w.cell? ⟨bs, os + k * 2, none⟩ = some (.int .i64 (rget s k).1) ∧ w.cell? ⟨bs, os + k * 2 + 1, none⟩ = some (.int .i64 (rget s k).2)) := Lib.hid fun k hk => sp_cells hcels k (by omega)
  have Hr8 := Lib.hid hr8
  have Hs8 : Hid (∀ q, some s = some q → q.length = 8) := Lib.hid fun q h => by cases h; exact hs8
  have hq8 : (r.set at' A).length = 8 := by simp [hr8]
  have Hq8 := Lib.hid hq8
  have HQ0 := Lib.hid (WQ.start w true (.slice (some ⟨bs, os, none⟩) 8 cs) A)
  have hlf : widR (some s) (r.set at' A) = joinR s (r.set at' A) := rfl
  have Hlf := Lib.hid hlf
  have Hs8' := Lib.hid hs8
  clear hcell hr hr8 hcr hmr hq8 hcels hs hs8 hcs hms hlf
  go_enter Try.func41, Try.ntmps41
  repeat' (first | go_values | go_skip | go_guarded | go_step | go_upon)
  go_loopw [11, 20] (fun s11 s20 wr => ∃ (k : Nat) (nb : Bool) (vo : Value), s20 = .int .i64 k ∧ s11 = .bool nb ∧ k ≤ 8 ∧ Hid (nb = widN (some s) (r.set at' A) k) ∧ Hid (WQ w true (.slice (some ⟨bs, os, none⟩) 8 cs) A vo (widL (some s) (r.set at' A) k) wr)) (fun _ s20 _ => 8 - (intOf s20).toNat)
  case atStart => exact ⟨0, false, _, rfl, rfl, by decide, Lib.hid rfl, HQ0⟩
  case round =>
    clear HQ0
    obtain ⟨k, nb, vo, rfl, rfl, hk, Hnb, HQ⟩ := hrel
    by_cases hlt : k < 8
    · obtain ⟨c0, c1⟩ := Hc.out k hlt
      rw [← HQ.out.bel.cell (show br < w.heap.size from hbr)] at c0 c1
      have hX : Hid (widL (some s) (r.set at' A) (k + 1) = widL (some s) (r.set at' A) k ++ [jn (rget s k) (if at' = k then A else rget r k)]) := Lib.hid (by rw [← rget_set r Hr8.out at' A k hlt, ← joinR_get Hs8'.out Hq8.out hlt, ← Hlf.out]; exact widL_succ Hq8.out Hs8.out hlt)
      have hN : Hid (widN (some s) (r.set at' A) (k + 1) = (nb || decide (jn (rget s k) (if at' = k then A else rget r k) ≠ rget s k))) := Lib.hid (by rw [← rget_set r Hr8.out at' A k hlt, Hnb.out]; exact widN_succ _ _ _)
      have Hll : Hid ((widL (some s) (r.set at' A) k).length = k) := Lib.hid (widL_len Hq8.out Hs8.out (by omega))
      obtain ⟨q0, q1⟩ := Hd.out k hlt
      have al : Hid (∀ o : Obj, Below w.heap.size w (wr.alloc o)) := Lib.hid fun o => (HQ.out.al o).bel
      have Fq0 : ∀ a b : Int, (wr.alloc (.cells #[.int .i64 a, .int .i64 b] 97)).cell? ⟨bs, os + k * 2, none⟩ = some (.int .i64 (rget s k).1) := fun a b => by rw [(al.out _).cell (show bs < w.heap.size from hbs)]; exact q0
      have Fq1 : ∀ a b : Int, (wr.alloc (.cells #[.int .i64 a, .int .i64 b] 97)).cell? ⟨bs, os + k * 2 + 1, none⟩ = some (.int .i64 (rget s k).2) := fun a b => by rw [(al.out _).cell (show bs < w.heap.size from hbs)]; exact q1
      have Fs0 : ∀ a b : Int, (wr.alloc (.cells #[.int .i64 a, .int .i64 b] 97)).cell? ⟨w.heap.size, 0, none⟩ = some (.bool true) := fun a b => (HQ.out.al _).s.two.1
      have Fs1 : ∀ a b : Int, (wr.alloc (.cells #[.int .i64 a, .int .i64 b] 97)).cell? ⟨w.heap.size, 1, none⟩ = some (.slice (some ⟨bs, os, none⟩) 8 cs) := fun a b => (HQ.out.al _).s.two.2
      have Fa0 : ∀ a b : Int, (wr.alloc (.cells #[.int .i64 a, .int .i64 b] 97)).cell? ⟨w.heap.size + 1, 0, none⟩ = some (.int .i64 A.1) := fun a b => (HQ.out.al _).a.two.1
      have Fa1 : ∀ a b : Int, (wr.alloc (.cells #[.int .i64 a, .int .i64 b] 97)).cell? ⟨w.heap.size + 1, 1, none⟩ = some (.int .i64 A.2) := fun a b => (HQ.out.al _).a.two.2
      have Fo1 : ∀ a b : Int, (wr.alloc (.cells #[.int .i64 a, .int .i64 b] 97)).cell? ⟨w.heap.size + 1 + 1 + 1, 1, none⟩ = some vo := fun a b => (HQ.out.al _).o.two.2
      clear q0 q1
      generalize rget r k = R at c0 c1 hX hN
      generalize rget s k = S at Fq0 Fq1 hX hN
      obtain ⟨S1, S2⟩ := S
      obtain ⟨R1, R2⟩ := R
      dsimp only at c0 c1 Fq0 Fq1
      by_cases he : at' = k
      · have hke : ((k : Int) == (at' : Int)) = true := by rw [beq_iff_eq]; omega
        obtain ⟨A1, A2⟩ := A
        dsimp only at Fa0 Fa1
        have hX2 : Hid (widL (some s) (r.set at' (A1, A2)) (k + 1) = widL (some s) (r.set at' (A1, A2)) k ++ [(min S1 A1, max S2 A2)]) := Lib.hid (by rw [hX.out, if_pos he]; rfl)
        have hN2 : Hid (widN (some s) (r.set at' (A1, A2)) (k + 1) = (nb || decide ((min S1 A1, max S2 A2) ≠ (S1, S2)))) := Lib.hid (by rw [hN.out, if_pos he]; rfl)
        have hlo : (S1 < A1 ∧ min S1 A1 = S1) ∨ (A1 ≤ S1 ∧ min S1 A1 = A1) := by omega
        have hhi : (A2 < S2 ∧ max S2 A2 = S2) ∨ (S2 ≤ A2 ∧ max S2 A2 = A2) := by omega
        clear he hX hN
        rcases hlo with ⟨h1, hm⟩ | ⟨h1, hm⟩
        · rcases hhi with ⟨h2, hn⟩ | ⟨h2, hn⟩
          · rw [hm, hn] at hX2 hN2
            clear hm hn
            repeat' (first | go_values | go_skip | go_guarded | go_step | go_upon)
            go_region
            repeat' (first | go_values | go_skip | go_guarded | go_step | go_upon)
            go_region
            repeat' (first | go_values | go_skip | go_guarded | go_step | go_upon)
            cases nb with
            | true =>
              go_region
              have H2 := Lib.hid (((HQ.out.al (.cells #[.int .i64 S1, .int .i64 S2] 97)).drw.drw).drw)
              have hown := H2.out.own
              have hwB := H2.out.size
              repeat' (first | (at_builtin; go_loud (refine app_one 16 (wr.heap.size + 1) (by simp) (S1, S2) spC_len (by intro y hy; simp [spC] at hy; rcases hy with rfl | rfl <;> rfl) Try.underlying72 info_spans rfl rfl _ _ rfl rfl rfl rfl hown hwB (by rw [Hll.out]; omega) (by rw [Hll.out]; unfold maxLen; omega) ?_); intro v4 w4 hown4 hb4 hk4 _; have O4 := H2.out.o.keepB hb4 (by omega); have o4 := O4.two.2; have f4 := O4.free 1; clear O4; obtain ⟨a4, n4, c4, e4⟩ := hown4.form3; subst e4) | go_values | go_skip | go_guarded | go_step | go_upon)
              rw [← hX2.out] at hown4
              go_roundw
              case rel => exact ⟨k + 1, _, _, by go_num, rfl, hlt, Lib.hid (by rw [hN2.out]; first | (simp; done) | (simp; omega)), Lib.hid (H2.out.grow hb4 hown4)⟩
              case measure => simp [intOf]; omega
            | false =>
              go_region
              have H2 := Lib.hid (((HQ.out.al (.cells #[.int .i64 S1, .int .i64 S2] 97)).drw.drw).drw)
              have hown := H2.out.own
              have hwB := H2.out.size
              repeat' (first | (at_builtin; go_loud (refine app_one 16 (wr.heap.size + 1) (by simp) (S1, S2) spC_len (by intro y hy; simp [spC] at hy; rcases hy with rfl | rfl <;> rfl) Try.underlying72 info_spans rfl rfl _ _ rfl rfl rfl rfl hown hwB (by rw [Hll.out]; omega) (by rw [Hll.out]; unfold maxLen; omega) ?_); intro v4 w4 hown4 hb4 hk4 _; have O4 := H2.out.o.keepB hb4 (by omega); have o4 := O4.two.2; have f4 := O4.free 1; clear O4; obtain ⟨a4, n4, c4, e4⟩ := hown4.form3; subst e4) | go_values | go_skip | go_guarded | go_step | go_upon)
              rw [← hX2.out] at hown4
              go_roundw
              case rel => exact ⟨k + 1, _, _, by go_num, rfl, hlt, Lib.hid (by rw [hN2.out]; first | (simp; done) | (simp; omega)), Lib.hid (H2.out.grow hb4 hown4)⟩
              case measure => simp [intOf]; omega
          · rw [hm, hn] at hX2 hN2
            clear hm hn
            repeat' (first | go_values | go_skip | go_guarded | go_step | go_upon)
            go_region
            repeat' (first | go_values | go_skip | go_guarded | go_step | go_upon)
            go_region
            repeat' (first | go_values | go_skip | go_guarded | go_step | go_upon)
            cases nb with
            | true =>
              go_region
              have H2 := Lib.hid (((HQ.out.al (.cells #[.int .i64 S1, .int .i64 A2] 97)).drw.drw).drw)
              have hown := H2.out.own
              have hwB := H2.out.size
              repeat' (first | (at_builtin; go_loud (refine app_one 16 (wr.heap.size + 1) (by simp) (S1, A2) spC_len (by intro y hy; simp [spC] at hy; rcases hy with rfl | rfl <;> rfl) Try.underlying72 info_spans rfl rfl _ _ rfl rfl rfl rfl hown hwB (by rw [Hll.out]; omega) (by rw [Hll.out]; unfold maxLen; omega) ?_); intro v4 w4 hown4 hb4 hk4 _; have O4 := H2.out.o.keepB hb4 (by omega); have o4 := O4.two.2; have f4 := O4.free 1; clear O4; obtain ⟨a4, n4, c4, e4⟩ := hown4.form3; subst e4) | go_values | go_skip | go_guarded | go_step | go_upon)
              rw [← hX2.out] at hown4
              go_roundw
              case rel => exact ⟨k + 1, _, _, by go_num, rfl, hlt, Lib.hid (by rw [hN2.out]; first | (simp; done) | (simp; omega)), Lib.hid (H2.out.grow hb4 hown4)⟩
              case measure => simp [intOf]; omega
            | false =>
              by_cases e : S2 = A2
              · subst e
                go_region
                have H2 := Lib.hid (((HQ.out.al (.cells #[.int .i64 S1, .int .i64 S2] 97)).drw.drw).drw)
                have hown := H2.out.own
                have hwB := H2.out.size
                repeat' (first | (at_builtin; go_loud (refine app_one 16 (wr.heap.size + 1) (by simp) (S1, S2) spC_len (by intro y hy; simp [spC] at hy; rcases hy with rfl | rfl <;> rfl) Try.underlying72 info_spans rfl rfl _ _ rfl rfl rfl rfl hown hwB (by rw [Hll.out]; omega) (by rw [Hll.out]; unfold maxLen; omega) ?_); intro v4 w4 hown4 hb4 hk4 _; have O4 := H2.out.o.keepB hb4 (by omega); have o4 := O4.two.2; have f4 := O4.free 1; clear O4; obtain ⟨a4, n4, c4, e4⟩ := hown4.form3; subst e4) | go_values | go_skip | go_guarded | go_step | go_upon)
                rw [← hX2.out] at hown4
                go_roundw
                case rel => exact ⟨k + 1, _, _, by go_num, rfl, hlt, Lib.hid (by rw [hN2.out]; first | (simp; done) | (simp; omega)), Lib.hid (H2.out.grow hb4 hown4)⟩
                case measure => simp [intOf]; omega
              · have ehi : ¬ A2 = S2 := fun h => e h.symm
                clear e
                go_region
                have H2 := Lib.hid (((HQ.out.al (.cells #[.int .i64 S1, .int .i64 A2] 97)).drw.drw).drw)
                have hown := H2.out.own
                have hwB := H2.out.size
                repeat' (first | (at_builtin; go_loud (refine app_one 16 (wr.heap.size + 1) (by simp) (S1, A2) spC_len (by intro y hy; simp [spC] at hy; rcases hy with rfl | rfl <;> rfl) Try.underlying72 info_spans rfl rfl _ _ rfl rfl rfl rfl hown hwB (by rw [Hll.out]; omega) (by rw [Hll.out]; unfold maxLen; omega) ?_); intro v4 w4 hown4 hb4 hk4 _; have O4 := H2.out.o.keepB hb4 (by omega); have o4 := O4.two.2; have f4 := O4.free 1; clear O4; obtain ⟨a4, n4, c4, e4⟩ := hown4.form3; subst e4) | go_values | go_skip | go_guarded | go_step | go_upon)
                rw [← hX2.out] at hown4
                go_roundw
                case rel => exact ⟨k + 1, _, _, by go_num, rfl, hlt, Lib.hid (by rw [hN2.out]; first | (simp; done) | (simp; omega)), Lib.hid (H2.out.grow hb4 hown4)⟩
                case measure => simp [intOf]; omega
        · rcases hhi with ⟨h2, hn⟩ | ⟨h2, hn⟩
          · rw [hm, hn] at hX2 hN2
            clear hm hn
            repeat' (first | go_values | go_skip | go_guarded | go_step | go_upon)
            go_region
            repeat' (first | go_values | go_skip | go_guarded | go_step | go_upon)
            go_region
            repeat' (first | go_values | go_skip | go_guarded | go_step | go_upon)
            cases nb with
            | true =>
              go_region
              have H2 := Lib.hid (((HQ.out.al (.cells #[.int .i64 A1, .int .i64 S2] 97)).drw.drw).drw)
              have hown := H2.out.own
              have hwB := H2.out.size
              repeat' (first | (at_builtin; go_loud (refine app_one 16 (wr.heap.size + 1) (by simp) (A1, S2) spC_len (by intro y hy; simp [spC] at hy; rcases hy with rfl | rfl <;> rfl) Try.underlying72 info_spans rfl rfl _ _ rfl rfl rfl rfl hown hwB (by rw [Hll.out]; omega) (by rw [Hll.out]; unfold maxLen; omega) ?_); intro v4 w4 hown4 hb4 hk4 _; have O4 := H2.out.o.keepB hb4 (by omega); have o4 := O4.two.2; have f4 := O4.free 1; clear O4; obtain ⟨a4, n4, c4, e4⟩ := hown4.form3; subst e4) | go_values | go_skip | go_guarded | go_step | go_upon)
              rw [← hX2.out] at hown4
              go_roundw
              case rel => exact ⟨k + 1, _, _, by go_num, rfl, hlt, Lib.hid (by rw [hN2.out]; first | (simp; done) | (simp; omega)), Lib.hid (H2.out.grow hb4 hown4)⟩
              case measure => simp [intOf]; omega
            | false =>
              by_cases e : S1 = A1
              · subst e
                go_region
                have H2 := Lib.hid (((HQ.out.al (.cells #[.int .i64 S1, .int .i64 S2] 97)).drw.drw).drw)
                have hown := H2.out.own
                have hwB := H2.out.size
                repeat' (first | (at_builtin; go_loud (refine app_one 16 (wr.heap.size + 1) (by simp) (S1, S2) spC_len (by intro y hy; simp [spC] at hy; rcases hy with rfl | rfl <;> rfl) Try.underlying72 info_spans rfl rfl _ _ rfl rfl rfl rfl hown hwB (by rw [Hll.out]; omega) (by rw [Hll.out]; unfold maxLen; omega) ?_); intro v4 w4 hown4 hb4 hk4 _; have O4 := H2.out.o.keepB hb4 (by omega); have o4 := O4.two.2; have f4 := O4.free 1; clear O4; obtain ⟨a4, n4, c4, e4⟩ := hown4.form3; subst e4) | go_values | go_skip | go_guarded | go_step | go_upon)
                rw [← hX2.out] at hown4
                go_roundw
                case rel => exact ⟨k + 1, _, _, by go_num, rfl, hlt, Lib.hid (by rw [hN2.out]; first | (simp; done) | (simp; omega)), Lib.hid (H2.out.grow hb4 hown4)⟩
                case measure => simp [intOf]; omega
              · have elo : ¬ A1 = S1 := fun h => e h.symm
                clear e
                go_region
                have H2 := Lib.hid (((HQ.out.al (.cells #[.int .i64 A1, .int .i64 S2] 97)).drw.drw).drw)
                have hown := H2.out.own
                have hwB := H2.out.size
                repeat' (first | (at_builtin; go_loud (refine app_one 16 (wr.heap.size + 1) (by simp) (A1, S2) spC_len (by intro y hy; simp [spC] at hy; rcases hy with rfl | rfl <;> rfl) Try.underlying72 info_spans rfl rfl _ _ rfl rfl rfl rfl hown hwB (by rw [Hll.out]; omega) (by rw [Hll.out]; unfold maxLen; omega) ?_); intro v4 w4 hown4 hb4 hk4 _; have O4 := H2.out.o.keepB hb4 (by omega); have o4 := O4.two.2; have f4 := O4.free 1; clear O4; obtain ⟨a4, n4, c4, e4⟩ := hown4.form3; subst e4) | go_values | go_skip | go_guarded | go_step | go_upon)
                rw [← hX2.out] at hown4
                go_roundw
                case rel => exact ⟨k + 1, _, _, by go_num, rfl, hlt, Lib.hid (by rw [hN2.out]; first | (simp; done) | (simp; omega)), Lib.hid (H2.out.grow hb4 hown4)⟩
                case measure => simp [intOf]; omega
          · rw [hm, hn] at hX2 hN2
            clear hm hn
            repeat' (first | go_values | go_skip | go_guarded | go_step | go_upon)
            go_region
            repeat' (first | go_values | go_skip | go_guarded | go_step | go_upon)
            go_region
            repeat' (first | go_values | go_skip | go_guarded | go_step | go_upon)
            cases nb with
            | true =>
              go_region
              have H2 := Lib.hid (((HQ.out.al (.cells #[.int .i64 A1, .int .i64 A2] 97)).drw.drw).drw)
              have hown := H2.out.own
              have hwB := H2.out.size
              repeat' (first | (at_builtin; go_loud (refine app_one 16 (wr.heap.size + 1) (by simp) (A1, A2) spC_len (by intro y hy; simp [spC] at hy; rcases hy with rfl | rfl <;> rfl) Try.underlying72 info_spans rfl rfl _ _ rfl rfl rfl rfl hown hwB (by rw [Hll.out]; omega) (by rw [Hll.out]; unfold maxLen; omega) ?_); intro v4 w4 hown4 hb4 hk4 _; have O4 := H2.out.o.keepB hb4 (by omega); have o4 := O4.two.2; have f4 := O4.free 1; clear O4; obtain ⟨a4, n4, c4, e4⟩ := hown4.form3; subst e4) | go_values | go_skip | go_guarded | go_step | go_upon)
              rw [← hX2.out] at hown4
              go_roundw
              case rel => exact ⟨k + 1, _, _, by go_num, rfl, hlt, Lib.hid (by rw [hN2.out]; first | (simp; done) | (simp; omega)), Lib.hid (H2.out.grow hb4 hown4)⟩
              case measure => simp [intOf]; omega
            | false =>
              by_cases e : S1 = A1
              · subst e
                by_cases e : S2 = A2
                · subst e
                  go_region
                  have H2 := Lib.hid (((HQ.out.al (.cells #[.int .i64 S1, .int .i64 S2] 97)).drw.drw).drw)
                  have hown := H2.out.own
                  have hwB := H2.out.size
                  repeat' (first | (at_builtin; go_loud (refine app_one 16 (wr.heap.size + 1) (by simp) (S1, S2) spC_len (by intro y hy; simp [spC] at hy; rcases hy with rfl | rfl <;> rfl) Try.underlying72 info_spans rfl rfl _ _ rfl rfl rfl rfl hown hwB (by rw [Hll.out]; omega) (by rw [Hll.out]; unfold maxLen; omega) ?_); intro v4 w4 hown4 hb4 hk4 _; have O4 := H2.out.o.keepB hb4 (by omega); have o4 := O4.two.2; have f4 := O4.free 1; clear O4; obtain ⟨a4, n4, c4, e4⟩ := hown4.form3; subst e4) | go_values | go_skip | go_guarded | go_step | go_upon)
                  rw [← hX2.out] at hown4
                  go_roundw
                  case rel => exact ⟨k + 1, _, _, by go_num, rfl, hlt, Lib.hid (by rw [hN2.out]; first | (simp; done) | (simp; omega)), Lib.hid (H2.out.grow hb4 hown4)⟩
                  case measure => simp [intOf]; omega
                · have ehi : ¬ A2 = S2 := fun h => e h.symm
                  clear e
                  go_region
                  have H2 := Lib.hid (((HQ.out.al (.cells #[.int .i64 S1, .int .i64 A2] 97)).drw.drw).drw)
                  have hown := H2.out.own
                  have hwB := H2.out.size
                  repeat' (first | (at_builtin; go_loud (refine app_one 16 (wr.heap.size + 1) (by simp) (S1, A2) spC_len (by intro y hy; simp [spC] at hy; rcases hy with rfl | rfl <;> rfl) Try.underlying72 info_spans rfl rfl _ _ rfl rfl rfl rfl hown hwB (by rw [Hll.out]; omega) (by rw [Hll.out]; unfold maxLen; omega) ?_); intro v4 w4 hown4 hb4 hk4 _; have O4 := H2.out.o.keepB hb4 (by omega); have o4 := O4.two.2; have f4 := O4.free 1; clear O4; obtain ⟨a4, n4, c4, e4⟩ := hown4.form3; subst e4) | go_values | go_skip | go_guarded | go_step | go_upon)
                  rw [← hX2.out] at hown4
                  go_roundw
                  case rel => exact ⟨k + 1, _, _, by go_num, rfl, hlt, Lib.hid (by rw [hN2.out]; first | (simp; done) | (simp; omega)), Lib.hid (H2.out.grow hb4 hown4)⟩
                  case measure => simp [intOf]; omega
              · have elo : ¬ A1 = S1 := fun h => e h.symm
                clear e
                by_cases e : S2 = A2
                · subst e
                  go_region
                  have H2 := Lib.hid (((HQ.out.al (.cells #[.int .i64 A1, .int .i64 S2] 97)).drw.drw).drw)
                  have hown := H2.out.own
                  have hwB := H2.out.size
                  repeat' (first | (at_builtin; go_loud (refine app_one 16 (wr.heap.size + 1) (by simp) (A1, S2) spC_len (by intro y hy; simp [spC] at hy; rcases hy with rfl | rfl <;> rfl) Try.underlying72 info_spans rfl rfl _ _ rfl rfl rfl rfl hown hwB (by rw [Hll.out]; omega) (by rw [Hll.out]; unfold maxLen; omega) ?_); intro v4 w4 hown4 hb4 hk4 _; have O4 := H2.out.o.keepB hb4 (by omega); have o4 := O4.two.2; have f4 := O4.free 1; clear O4; obtain ⟨a4, n4, c4, e4⟩ := hown4.form3; subst e4) | go_values | go_skip | go_guarded | go_step | go_upon)
                  rw [← hX2.out] at hown4
                  go_roundw
                  case rel => exact ⟨k + 1, _, _, by go_num, rfl, hlt, Lib.hid (by rw [hN2.out]; first | (simp; done) | (simp; omega)), Lib.hid (H2.out.grow hb4 hown4)⟩
                  case measure => simp [intOf]; omega
                · have ehi : ¬ A2 = S2 := fun h => e h.symm
                  clear e
                  go_region
                  have H2 := Lib.hid (((HQ.out.al (.cells #[.int .i64 A1, .int .i64 A2] 97)).drw.drw).drw)
                  have hown := H2.out.own
                  have hwB := H2.out.size
                  repeat' (first | (at_builtin; go_loud (refine app_one 16 (wr.heap.size + 1) (by simp) (A1, A2) spC_len (by intro y hy; simp [spC] at hy; rcases hy with rfl | rfl <;> rfl) Try.underlying72 info_spans rfl rfl _ _ rfl rfl rfl rfl hown hwB (by rw [Hll.out]; omega) (by rw [Hll.out]; unfold maxLen; omega) ?_); intro v4 w4 hown4 hb4 hk4 _; have O4 := H2.out.o.keepB hb4 (by omega); have o4 := O4.two.2; have f4 := O4.free 1; clear O4; obtain ⟨a4, n4, c4, e4⟩ := hown4.form3; subst e4) | go_values | go_skip | go_guarded | go_step | go_upon)
                  rw [← hX2.out] at hown4
                  go_roundw
                  case rel => exact ⟨k + 1, _, _, by go_num, rfl, hlt, Lib.hid (by rw [hN2.out]; first | (simp; done) | (simp; omega)), Lib.hid (H2.out.grow hb4 hown4)⟩
                  case measure => simp [intOf]; omega
      · have hke : ((k : Int) == (at' : Int)) = false := by rw [beq_eq_false_iff_ne]; omega
        have hX2 : Hid (widL (some s) (r.set at' A) (k + 1) = widL (some s) (r.set at' A) k ++ [(min S1 R1, max S2 R2)]) := Lib.hid (by rw [hX.out, if_neg he]; rfl)
        have hN2 : Hid (widN (some s) (r.set at' A) (k + 1) = (nb || decide ((min S1 R1, max S2 R2) ≠ (S1, S2)))) := Lib.hid (by rw [hN.out, if_neg he]; rfl)
        have hlo : (S1 < R1 ∧ min S1 R1 = S1) ∨ (R1 ≤ S1 ∧ min S1 R1 = R1) := by omega
        have hhi : (R2 < S2 ∧ max S2 R2 = S2) ∨ (S2 ≤ R2 ∧ max S2 R2 = R2) := by omega
        clear he hX hN
        rcases hlo with ⟨h1, hm⟩ | ⟨h1, hm⟩
        · rcases hhi with ⟨h2, hn⟩ | ⟨h2, hn⟩
          · rw [hm, hn] at hX2 hN2
            clear hm hn
            repeat' (first | go_values | go_skip | go_guarded | go_step | go_upon)
            go_region
            repeat' (first | go_values | go_skip | go_guarded | go_step | go_upon)
            go_region
            repeat' (first | go_values | go_skip | go_guarded | go_step | go_upon)
            cases nb with
            | true =>
              go_region
              have H2 := Lib.hid (((HQ.out.al (.cells #[.int .i64 S1, .int .i64 S2] 97)).drw.drw).drw)
              have hown := H2.out.own
              have hwB := H2.out.size
              repeat' (first | (at_builtin; go_loud (refine app_one 16 (wr.heap.size + 1) (by simp) (S1, S2) spC_len (by intro y hy; simp [spC] at hy; rcases hy with rfl | rfl <;> rfl) Try.underlying72 info_spans rfl rfl _ _ rfl rfl rfl rfl hown hwB (by rw [Hll.out]; omega) (by rw [Hll.out]; unfold maxLen; omega) ?_); intro v4 w4 hown4 hb4 hk4 _; have O4 := H2.out.o.keepB hb4 (by omega); have o4 := O4.two.2; have f4 := O4.free 1; clear O4; obtain ⟨a4, n4, c4, e4⟩ := hown4.form3; subst e4) | go_values | go_skip | go_guarded | go_step | go_upon)
              rw [← hX2.out] at hown4
              go_roundw
              case rel => exact ⟨k + 1, _, _, by go_num, rfl, hlt, Lib.hid (by rw [hN2.out]; first | (simp; done) | (simp; omega)), Lib.hid (H2.out.grow hb4 hown4)⟩
              case measure => simp [intOf]; omega
            | false =>
              go_region
              have H2 := Lib.hid (((HQ.out.al (.cells #[.int .i64 S1, .int .i64 S2] 97)).drw.drw).drw)
              have hown := H2.out.own
              have hwB := H2.out.size
              repeat' (first | (at_builtin; go_loud (refine app_one 16 (wr.heap.size + 1) (by simp) (S1, S2) spC_len (by intro y hy; simp [spC] at hy; rcases hy with rfl | rfl <;> rfl) Try.underlying72 info_spans rfl rfl _ _ rfl rfl rfl rfl hown hwB (by rw [Hll.out]; omega) (by rw [Hll.out]; unfold maxLen; omega) ?_); intro v4 w4 hown4 hb4 hk4 _; have O4 := H2.out.o.keepB hb4 (by omega); have o4 := O4.two.2; have f4 := O4.free 1; clear O4; obtain ⟨a4, n4, c4, e4⟩ := hown4.form3; subst e4) | go_values | go_skip | go_guarded | go_step | go_upon)
              rw [← hX2.out] at hown4
              go_roundw
              case rel => exact ⟨k + 1, _, _, by go_num, rfl, hlt, Lib.hid (by rw [hN2.out]; first | (simp; done) | (simp; omega)), Lib.hid (H2.out.grow hb4 hown4)⟩
              case measure => simp [intOf]; omega
          · rw [hm, hn] at hX2 hN2
            clear hm hn
            repeat' (first | go_values | go_skip | go_guarded | go_step | go_upon)
            go_region
            repeat' (first | go_values | go_skip | go_guarded | go_step | go_upon)
            go_region
            repeat' (first | go_values | go_skip | go_guarded | go_step | go_upon)
            cases nb with
            | true =>
              go_region
              have H2 := Lib.hid (((HQ.out.al (.cells #[.int .i64 S1, .int .i64 R2] 97)).drw.drw).drw)
              have hown := H2.out.own
              have hwB := H2.out.size
              repeat' (first | (at_builtin; go_loud (refine app_one 16 (wr.heap.size + 1) (by simp) (S1, R2) spC_len (by intro y hy; simp [spC] at hy; rcases hy with rfl | rfl <;> rfl) Try.underlying72 info_spans rfl rfl _ _ rfl rfl rfl rfl hown hwB (by rw [Hll.out]; omega) (by rw [Hll.out]; unfold maxLen; omega) ?_); intro v4 w4 hown4 hb4 hk4 _; have O4 := H2.out.o.keepB hb4 (by omega); have o4 := O4.two.2; have f4 := O4.free 1; clear O4; obtain ⟨a4, n4, c4, e4⟩ := hown4.form3; subst e4) | go_values | go_skip | go_guarded | go_step | go_upon)
              rw [← hX2.out] at hown4
              go_roundw
              case rel => exact ⟨k + 1, _, _, by go_num, rfl, hlt, Lib.hid (by rw [hN2.out]; first | (simp; done) | (simp; omega)), Lib.hid (H2.out.grow hb4 hown4)⟩
              case measure => simp [intOf]; omega
            | false =>
              by_cases e : S2 = R2
              · subst e
                go_region
                have H2 := Lib.hid (((HQ.out.al (.cells #[.int .i64 S1, .int .i64 S2] 97)).drw.drw).drw)
                have hown := H2.out.own
                have hwB := H2.out.size
                repeat' (first | (at_builtin; go_loud (refine app_one 16 (wr.heap.size + 1) (by simp) (S1, S2) spC_len (by intro y hy; simp [spC] at hy; rcases hy with rfl | rfl <;> rfl) Try.underlying72 info_spans rfl rfl _ _ rfl rfl rfl rfl hown hwB (by rw [Hll.out]; omega) (by rw [Hll.out]; unfold maxLen; omega) ?_); intro v4 w4 hown4 hb4 hk4 _; have O4 := H2.out.o.keepB hb4 (by omega); have o4 := O4.two.2; have f4 := O4.free 1; clear O4; obtain ⟨a4, n4, c4, e4⟩ := hown4.form3; subst e4) | go_values | go_skip | go_guarded | go_step | go_upon)
                rw [← hX2.out] at hown4
                go_roundw
                case rel => exact ⟨k + 1, _, _, by go_num, rfl, hlt, Lib.hid (by rw [hN2.out]; first | (simp; done) | (simp; omega)), Lib.hid (H2.out.grow hb4 hown4)⟩
                case measure => simp [intOf]; omega
              · have ehi : ¬ R2 = S2 := fun h => e h.symm
                clear e
                go_region
                have H2 := Lib.hid (((HQ.out.al (.cells #[.int .i64 S1, .int .i64 R2] 97)).drw.drw).drw)
                have hown := H2.out.own
                have hwB := H2.out.size
                repeat' (first | (at_builtin; go_loud (refine app_one 16 (wr.heap.size + 1) (by simp) (S1, R2) spC_len (by intro y hy; simp [spC] at hy; rcases hy with rfl | rfl <;> rfl) Try.underlying72 info_spans rfl rfl _ _ rfl rfl rfl rfl hown hwB (by rw [Hll.out]; omega) (by rw [Hll.out]; unfold maxLen; omega) ?_); intro v4 w4 hown4 hb4 hk4 _; have O4 := H2.out.o.keepB hb4 (by omega); have o4 := O4.two.2; have f4 := O4.free 1; clear O4; obtain ⟨a4, n4, c4, e4⟩ := hown4.form3; subst e4) | go_values | go_skip | go_guarded | go_step | go_upon)
                rw [← hX2.out] at hown4
                go_roundw
                case rel => exact ⟨k + 1, _, _, by go_num, rfl, hlt, Lib.hid (by rw [hN2.out]; first | (simp; done) | (simp; omega)), Lib.hid (H2.out.grow hb4 hown4)⟩
                case measure => simp [intOf]; omega
        · rcases hhi with ⟨h2, hn⟩ | ⟨h2, hn⟩
          · rw [hm, hn] at hX2 hN2
            clear hm hn
            repeat' (first | go_values | go_skip | go_guarded | go_step | go_upon)
            go_region
            repeat' (first | go_values | go_skip | go_guarded | go_step | go_upon)
            go_region
            repeat' (first | go_values | go_skip | go_guarded | go_step | go_upon)
            cases nb with
            | true =>
              go_region
              have H2 := Lib.hid (((HQ.out.al (.cells #[.int .i64 R1, .int .i64 S2] 97)).drw.drw).drw)
              have hown := H2.out.own
              have hwB := H2.out.size
              repeat' (first | (at_builtin; go_loud (refine app_one 16 (wr.heap.size + 1) (by simp) (R1, S2) spC_len (by intro y hy; simp [spC] at hy; rcases hy with rfl | rfl <;> rfl) Try.underlying72 info_spans rfl rfl _ _ rfl rfl rfl rfl hown hwB (by rw [Hll.out]; omega) (by rw [Hll.out]; unfold maxLen; omega) ?_); intro v4 w4 hown4 hb4 hk4 _; have O4 := H2.out.o.keepB hb4 (by omega); have o4 := O4.two.2; have f4 := O4.free 1; clear O4; obtain ⟨a4, n4, c4, e4⟩ := hown4.form3; subst e4) | go_values | go_skip | go_guarded | go_step | go_upon)
              rw [← hX2.out] at hown4
              go_roundw
              case rel => exact ⟨k + 1, _, _, by go_num, rfl, hlt, Lib.hid (by rw [hN2.out]; first | (simp; done) | (simp; omega)), Lib.hid (H2.out.grow hb4 hown4)⟩
              case measure => simp [intOf]; omega
            | false =>
              by_cases e : S1 = R1
              · subst e
                go_region
                have H2 := Lib.hid (((HQ.out.al (.cells #[.int .i64 S1, .int .i64 S2] 97)).drw.drw).drw)
                have hown := H2.out.own
                have hwB := H2.out.size
                repeat' (first | (at_builtin; go_loud (refine app_one 16 (wr.heap.size + 1) (by simp) (S1, S2) spC_len (by intro y hy; simp [spC] at hy; rcases hy with rfl | rfl <;> rfl) Try.underlying72 info_spans rfl rfl _ _ rfl rfl rfl rfl hown hwB (by rw [Hll.out]; omega) (by rw [Hll.out]; unfold maxLen; omega) ?_); intro v4 w4 hown4 hb4 hk4 _; have O4 := H2.out.o.keepB hb4 (by omega); have o4 := O4.two.2; have f4 := O4.free 1; clear O4; obtain ⟨a4, n4, c4, e4⟩ := hown4.form3; subst e4) | go_values | go_skip | go_guarded | go_step | go_upon)
                rw [← hX2.out] at hown4
                go_roundw
                case rel => exact ⟨k + 1, _, _, by go_num, rfl, hlt, Lib.hid (by rw [hN2.out]; first | (simp; done) | (simp; omega)), Lib.hid (H2.out.grow hb4 hown4)⟩
                case measure => simp [intOf]; omega
              · have elo : ¬ R1 = S1 := fun h => e h.symm
                clear e
                go_region
                have H2 := Lib.hid (((HQ.out.al (.cells #[.int .i64 R1, .int .i64 S2] 97)).drw.drw).drw)
                have hown := H2.out.own
                have hwB := H2.out.size
                repeat' (first | (at_builtin; go_loud (refine app_one 16 (wr.heap.size + 1) (by simp) (R1, S2) spC_len (by intro y hy; simp [spC] at hy; rcases hy with rfl | rfl <;> rfl) Try.underlying72 info_spans rfl rfl _ _ rfl rfl rfl rfl hown hwB (by rw [Hll.out]; omega) (by rw [Hll.out]; unfold maxLen; omega) ?_); intro v4 w4 hown4 hb4 hk4 _; have O4 := H2.out.o.keepB hb4 (by omega); have o4 := O4.two.2; have f4 := O4.free 1; clear O4; obtain ⟨a4, n4, c4, e4⟩ := hown4.form3; subst e4) | go_values | go_skip | go_guarded | go_step | go_upon)
                rw [← hX2.out] at hown4
                go_roundw
                case rel => exact ⟨k + 1, _, _, by go_num, rfl, hlt, Lib.hid (by rw [hN2.out]; first | (simp; done) | (simp; omega)), Lib.hid (H2.out.grow hb4 hown4)⟩
                case measure => simp [intOf]; omega
          · rw [hm, hn] at hX2 hN2
            clear hm hn
            repeat' (first | go_values | go_skip | go_guarded | go_step | go_upon)
            go_region
            repeat' (first | go_values | go_skip | go_guarded | go_step | go_upon)
            go_region
            repeat' (first | go_values | go_skip | go_guarded | go_step | go_upon)
            cases nb with
            | true =>
              go_region
              have H2 := Lib.hid (((HQ.out.al (.cells #[.int .i64 R1, .int .i64 R2] 97)).drw.drw).drw)
              have hown := H2.out.own
              have hwB := H2.out.size
              repeat' (first | (at_builtin; go_loud (refine app_one 16 (wr.heap.size + 1) (by simp) (R1, R2) spC_len (by intro y hy; simp [spC] at hy; rcases hy with rfl | rfl <;> rfl) Try.underlying72 info_spans rfl rfl _ _ rfl rfl rfl rfl hown hwB (by rw [Hll.out]; omega) (by rw [Hll.out]; unfold maxLen; omega) ?_); intro v4 w4 hown4 hb4 hk4 _; have O4 := H2.out.o.keepB hb4 (by omega); have o4 := O4.two.2; have f4 := O4.free 1; clear O4; obtain ⟨a4, n4, c4, e4⟩ := hown4.form3; subst e4) | go_values | go_skip | go_guarded | go_step | go_upon)
              rw [← hX2.out] at hown4
              go_roundw
              case rel => exact ⟨k + 1, _, _, by go_num, rfl, hlt, Lib.hid (by rw [hN2.out]; first | (simp; done) | (simp; omega)), Lib.hid (H2.out.grow hb4 hown4)⟩
              case measure => simp [intOf]; omega
            | false =>
              by_cases e : S1 = R1
              · subst e
                by_cases e : S2 = R2
                · subst e
                  go_region
                  have H2 := Lib.hid (((HQ.out.al (.cells #[.int .i64 S1, .int .i64 S2] 97)).drw.drw).drw)
                  have hown := H2.out.own
                  have hwB := H2.out.size
                  repeat' (first | (at_builtin; go_loud (refine app_one 16 (wr.heap.size + 1) (by simp) (S1, S2) spC_len (by intro y hy; simp [spC] at hy; rcases hy with rfl | rfl <;> rfl) Try.underlying72 info_spans rfl rfl _ _ rfl rfl rfl rfl hown hwB (by rw [Hll.out]; omega) (by rw [Hll.out]; unfold maxLen; omega) ?_); intro v4 w4 hown4 hb4 hk4 _; have O4 := H2.out.o.keepB hb4 (by omega); have o4 := O4.two.2; have f4 := O4.free 1; clear O4; obtain ⟨a4, n4, c4, e4⟩ := hown4.form3; subst e4) | go_values | go_skip | go_guarded | go_step | go_upon)
                  rw [← hX2.out] at hown4
                  go_roundw
                  case rel => exact ⟨k + 1, _, _, by go_num, rfl, hlt, Lib.hid (by rw [hN2.out]; first | (simp; done) | (simp; omega)), Lib.hid (H2.out.grow hb4 hown4)⟩
                  case measure => simp [intOf]; omega
                · have ehi : ¬ R2 = S2 := fun h => e h.symm
                  clear e
                  go_region
                  have H2 := Lib.hid (((HQ.out.al (.cells #[.int .i64 S1, .int .i64 R2] 97)).drw.drw).drw)
                  have hown := H2.out.own
                  have hwB := H2.out.size
                  repeat' (first | (at_builtin; go_loud (refine app_one 16 (wr.heap.size + 1) (by simp) (S1, R2) spC_len (by intro y hy; simp [spC] at hy; rcases hy with rfl | rfl <;> rfl) Try.underlying72 info_spans rfl rfl _ _ rfl rfl rfl rfl hown hwB (by rw [Hll.out]; omega) (by rw [Hll.out]; unfold maxLen; omega) ?_); intro v4 w4 hown4 hb4 hk4 _; have O4 := H2.out.o.keepB hb4 (by omega); have o4 := O4.two.2; have f4 := O4.free 1; clear O4; obtain ⟨a4, n4, c4, e4⟩ := hown4.form3; subst e4) | go_values | go_skip | go_guarded | go_step | go_upon)
                  rw [← hX2.out] at hown4
                  go_roundw
                  case rel => exact ⟨k + 1, _, _, by go_num, rfl, hlt, Lib.hid (by rw [hN2.out]; first | (simp; done) | (simp; omega)), Lib.hid (H2.out.grow hb4 hown4)⟩
                  case measure => simp [intOf]; omega
              · have elo : ¬ R1 = S1 := fun h => e h.symm
                clear e
                by_cases e : S2 = R2
                · subst e
                  go_region
                  have H2 := Lib.hid (((HQ.out.al (.cells #[.int .i64 R1, .int .i64 S2] 97)).drw.drw).drw)
                  have hown := H2.out.own
                  have hwB := H2.out.size
                  repeat' (first | (at_builtin; go_loud (refine app_one 16 (wr.heap.size + 1) (by simp) (R1, S2) spC_len (by intro y hy; simp [spC] at hy; rcases hy with rfl | rfl <;> rfl) Try.underlying72 info_spans rfl rfl _ _ rfl rfl rfl rfl hown hwB (by rw [Hll.out]; omega) (by rw [Hll.out]; unfold maxLen; omega) ?_); intro v4 w4 hown4 hb4 hk4 _; have O4 := H2.out.o.keepB hb4 (by omega); have o4 := O4.two.2; have f4 := O4.free 1; clear O4; obtain ⟨a4, n4, c4, e4⟩ := hown4.form3; subst e4) | go_values | go_skip | go_guarded | go_step | go_upon)
                  rw [← hX2.out] at hown4
                  go_roundw
                  case rel => exact ⟨k + 1, _, _, by go_num, rfl, hlt, Lib.hid (by rw [hN2.out]; first | (simp; done) | (simp; omega)), Lib.hid (H2.out.grow hb4 hown4)⟩
                  case measure => simp [intOf]; omega
                · have ehi : ¬ R2 = S2 := fun h => e h.symm
                  clear e
                  go_region
                  have H2 := Lib.hid (((HQ.out.al (.cells #[.int .i64 R1, .int .i64 R2] 97)).drw.drw).drw)
                  have hown := H2.out.own
                  have hwB := H2.out.size
                  repeat' (first | (at_builtin; go_loud (refine app_one 16 (wr.heap.size + 1) (by simp) (R1, R2) spC_len (by intro y hy; simp [spC] at hy; rcases hy with rfl | rfl <;> rfl) Try.underlying72 info_spans rfl rfl _ _ rfl rfl rfl rfl hown hwB (by rw [Hll.out]; omega) (by rw [Hll.out]; unfold maxLen; omega) ?_); intro v4 w4 hown4 hb4 hk4 _; have O4 := H2.out.o.keepB hb4 (by omega); have o4 := O4.two.2; have f4 := O4.free 1; clear O4; obtain ⟨a4, n4, c4, e4⟩ := hown4.form3; subst e4) | go_values | go_skip | go_guarded | go_step | go_upon)
                  rw [← hX2.out] at hown4
                  go_roundw
                  case rel => exact ⟨k + 1, _, _, by go_num, rfl, hlt, Lib.hid (by rw [hN2.out]; first | (simp; done) | (simp; omega)), Lib.hid (H2.out.grow hb4 hown4)⟩
                  case measure => simp [intOf]; omega
    · obtain rfl : k = 8 := by omega
      have he := widL_all (q := r.set at' A) (o := some s) Hq8.out Hs8.out
      have hn := widN_all (some s) (r.set at' A) Hq8.out Hs8.out
      rw [he] at HQ
      rw [hn] at Hnb
      clear he hn
      obtain ⟨o0, o1⟩ := HQ.out.o.two
      obtain ⟨r0, r1⟩ := HQ.out.r.two
      have f0 := HQ.out.r.free 0
      have f1 := HQ.out.r.free 1
      obtain ⟨a4, n4, c4, e4⟩ := HQ.out.own.form3
      subst e4
      repeat' (first | go_values | go_skip | go_guarded | go_step | go_upon)
      refine bodyPost_ret (results_wider rfl _ _ (w.heap.size + 1 + 1) (.bool nb) true (.slice a4 n4 c4) rfl rfl (HQ.out.r.putS _ _)) rfl ⟨_, by rw [Hnb.out], ?_, ?_⟩
      · refine OwnR.setOther (OwnR.setOther HQ.out.own ?_) ?_
        · intro k hk; have := (HQ.out.own.below hk).1; omega
        · intro k hk; have := (HQ.out.own.below hk).1; omega
      · exact (HQ.out.bel.setCell (by dsimp only; omega) _).setCell (by dsimp only; omega) _
/-- wider, whatever the state -/
theorem ref_wider (o : Option Rg) (vs vr : Value) (r : Rg) (at' : Nat) (A : Int × Int) (w : World) (hs : ∀ s, o = some s → RowOf spC 2 w vs s ∧ s.length = 8) (hr : RowOf spC 2 w vr r) (hr8 : r.length = 8) :
    Calls Try.prog 41 #[.agg #[.bool o.isSome, vs], vr, .int .i64 at', spV A] w fun e w' => ∃ vo, e = .returned (.tuple #[.agg #[.bool true, vo], .bool (widB o (r.set at' A))]) ∧ OwnR spC 2 (w.heap.size + 1 + 1 + 1 + 1) 97 w' vo (widR o (r.set at' A)) ∧ Below w.heap.size w w' := by
  cases o with
  | none => exact ref_wider0 vs vr r at' A w hr hr8
  | some s => exact ref_wider1 vs vr s r at' A w (hs s rfl).1 (hs s rfl).2 hr hr8
end Go.Proofs.Ytkhggnlanopgkaa
