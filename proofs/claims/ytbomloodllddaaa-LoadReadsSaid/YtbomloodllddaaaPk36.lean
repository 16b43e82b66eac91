/- Walks: the first two sections are read (load.sections). Conditions: the text is of at most 10^15 bytes; reader and program lie in variables of their own. -/
import Derived.Test.YtbomloodllddaaaPk35
import Derived.Test.YtbomloodllddaaaPk31
import Derived.Test.YtbomloodllddaaaPk09
namespace Go.Proofs.Ytbomloodllddaaa
open Go.RowKit
/-- only blocks g and q turn, and new blocks are laid -/
structure Else2 (g q : Nat) (w w' : World) : Prop where
  os : w'.os = w.os
  tape : w'.tape = w.tape
  output : w'.output = w.output
  size : w.heap.size ≤ w'.heap.size
  block : ∀ k, k < w.heap.size → k ≠ g → k ≠ q → w'.heap[k]? = w.heap[k]?
section
variable {g q : Nat} {w w' w'' : World}
theorem Else2.of1 (h : Else g w w') : Else2 g q w w' := ⟨h.os, h.tape, h.output, h.size, fun k hk h1 _ => h.block k hk h1⟩
theorem Else2.refl : Else2 g q w w := ⟨rfl, rfl, rfl, Nat.le_refl _, fun _ _ _ _ => rfl⟩
theorem Else2.trans (h : Else2 g q w w') (h' : Else2 g q w' w'') : Else2 g q w w'' :=
  ⟨h'.os.trans h.os, h'.tape.trans h.tape, h'.output.trans h.output, Nat.le_trans h.size h'.size, fun k hk h1 h2 => (h'.block k (Nat.lt_of_lt_of_le hk h.size) h1 h2).trans (h.block k hk h1 h2)⟩
theorem Else2.belowB (h : Else2 g q w w') (hb : Below w.heap.size w' w'') : Else2 g q w w'' :=
  ⟨hb.os.trans h.os, hb.tape.trans h.tape, hb.output.trans h.output, Nat.le_trans h.size hb.size, fun k hk h1 h2 => (hb.block k hk).trans (h.block k hk h1 h2)⟩
theorem Else2.setG (h : Else2 g q w w') (o : Nat) (u : Value) : Else2 g q w (w'.setCell ⟨g, o, none⟩ u) :=
  ⟨h.os, h.tape, h.output, by have := h.size; simpa [World.setCell] using this, fun k hk h1 h2 => by rw [show (w'.setCell ⟨g, o, none⟩ u).heap[k]? = w'.heap[k]? from Below.heap_setCell _ _ _ _ (by dsimp only; omega)]; exact h.block k hk h1 h2⟩
theorem Else2.setQ (h : Else2 g q w w') (o : Nat) (u : Value) : Else2 g q w (w'.setCell ⟨q, o, none⟩ u) :=
  ⟨h.os, h.tape, h.output, by have := h.size; simpa [World.setCell] using this, fun k hk h1 h2 => by rw [show (w'.setCell ⟨q, o, none⟩ u).heap[k]? = w'.heap[k]? from Below.heap_setCell _ _ _ _ (by dsimp only; omega)]; exact h.block k hk h1 h2⟩
theorem Else2.below {B : Nat} (h : Else2 g q w w') (hg : B ≤ g) (hq : B ≤ q) (hB : B ≤ w.heap.size) : Below B w w' := ⟨h.os, h.tape, h.output, h.size, fun k hk => h.block k (by omega) (by omega) (by omega)⟩
theorem RdAt.setQ {s : List UInt8} {a b : Int} {wd : Bool} {o : Nat} {u : Value} (h : RdAt w g s a b wd) (hne : g ≠ q) : RdAt (w.setCell ⟨q, o, none⟩ u) g s a b wd := by
  unfold RdAt; rw [show (w.setCell ⟨q, o, none⟩ u).heap[g]? = w.heap[g]? from Below.heap_setCell _ _ _ _ (by dsimp only; omega)]; exact h
variable {p : Prg} {v : PV}
theorem PBox.setG {o : Nat} {u : Value} (h : PBox w q p v) (hne : g ≠ q) : PBox (w.setCell ⟨g, o, none⟩ u) q p v := by
  unfold PBox; rw [show (w.setCell ⟨g, o, none⟩ u).heap[q]? = w.heap[q]? from Below.heap_setCell _ _ _ _ (by dsimp only; omega)]; exact h
theorem PBox.els (h : PBox w q p v) (he : Else g w w') (hne : g ≠ q) : PBox w' q p v := he.row h (Ne.symm hne)
theorem PBox.free (h : PBox w q p v) (k : Nat) : w.frozen? ⟨q, k, none⟩ = false := frozen_of_row _ _ _ _ _ h
theorem PBox.set0 (h : PBox w q p v) (x : Int) : PBox (w.setCell ⟨q, 0, none⟩ (.int .i64 x)) q { p with grow := x } v := by
  unfold PBox; rw [setCell_eq_setRow _ _ _ _ _ _ _ h, setRow_heap _ _ _ _ _ _ h]; simp
theorem PBox.set1 (h : PBox w q p v) (x : Int) : PBox (w.setCell ⟨q, 1, none⟩ (.int .i64 x)) q { p with rest := x } v := by
  unfold PBox; rw [setCell_eq_setRow _ _ _ _ _ _ _ h, setRow_heap _ _ _ _ _ _ h]; simp
theorem PBox.set2 (h : PBox w q p v) (x : Int) : PBox (w.setCell ⟨q, 2, none⟩ (.int .i64 x)) q { p with extra := x } v := by
  unfold PBox; rw [setCell_eq_setRow _ _ _ _ _ _ _ h, setRow_heap _ _ _ _ _ _ h]; simp
theorem PBox.set3 (h : PBox w q p v) (x : Int) : PBox (w.setCell ⟨q, 3, none⟩ (.int .i64 x)) q { p with signs := x } v := by
  unfold PBox; rw [setCell_eq_setRow _ _ _ _ _ _ _ h, setRow_heap _ _ _ _ _ _ h]; simp
theorem PBox.set4 (h : PBox w q p v) (x : Value) (c : List (Nat → Int)) : PBox (w.setCell ⟨q, 4, none⟩ x) q { p with code := c } { v with vc := x } := by
  unfold PBox; rw [setCell_eq_setRow _ _ _ _ _ _ _ h, setRow_heap _ _ _ _ _ _ h]; simp
theorem PBox.set5 (h : PBox w q p v) (x : Value) (c : List (Int × List Int)) : PBox (w.setCell ⟨q, 5, none⟩ x) q { p with tabs := c } { v with vt := x } := by
  unfold PBox; rw [setCell_eq_setRow _ _ _ _ _ _ _ h, setRow_heap _ _ _ _ _ _ h]; simp
theorem PBox.set6 (h : PBox w q p v) (x : Value) (c : List (List UInt8)) : PBox (w.setCell ⟨q, 6, none⟩ x) q { p with texts := c } { v with vx := x } := by
  unfold PBox; rw [setCell_eq_setRow _ _ _ _ _ _ _ h, setRow_heap _ _ _ _ _ _ h]; simp
theorem PBox.set7 (h : PBox w q p v) (x : Value) (c : HashP) : PBox (w.setCell ⟨q, 7, none⟩ x) q { p with hash := c } { v with vs := x } := by
  unfold PBox; rw [setCell_eq_setRow _ _ _ _ _ _ _ h, setRow_heap _ _ _ _ _ _ h]; simp
theorem PBox.set8 (h : PBox w q p v) (x : Value) (c : HashP) : PBox (w.setCell ⟨q, 8, none⟩ x) q { p with hash := c } { v with vk := x } := by
  unfold PBox; rw [setCell_eq_setRow _ _ _ _ _ _ _ h, setRow_heap _ _ _ _ _ _ h]; simp
theorem PBox.set9 (h : PBox w q p v) (x : Value) (c : HashP) : PBox (w.setCell ⟨q, 9, none⟩ x) q { p with hash := c } { v with vv := x } := by
  unfold PBox; rw [setCell_eq_setRow _ _ _ _ _ _ _ h, setRow_heap _ _ _ _ _ _ h]; simp
end
theorem getn_bad (s : List UInt8) : ∀ (n : Nat) (a : Int), (getn s n a).2.2 ≠ 0 → getn s n a = ([], 0, (getn s n a).2.2)
  | 0, a, h => absurd rfl h
  | n + 1, a, h => by
    rw [getn] at h ⊢
    by_cases h1 : (vget s a).2.2 ≠ 0
    · rw [if_pos h1]
    · rw [if_neg h1] at h ⊢
      by_cases h2 : (getn s n (vget s a).2.1).2.2 ≠ 0
      · rw [if_pos h2]
      · rw [if_neg h2] at h; exact absurd rfl h
theorem geta_err {s : List UInt8} {a most : Int} (h : (geta s a most).2.2 ≠ 0) : geta s a most = ([], 0, (geta s a most).2.2) := by
  unfold geta at h ⊢
  by_cases h1 : (vget s a).2.2 ≠ 0
  · rw [if_pos h1]
  · rw [if_neg h1] at h ⊢
    by_cases h2 : max most 0 < ((vget s a).1 : Int)
    · rw [if_pos h2]
    · rw [if_neg h2] at h ⊢; exact getn_bad s _ _ h
theorem rdL_zero (s : List UInt8) (a most : Int) : rdL s a 0 most = geta s a most := if_neg (by simp)
/-- what reading a section comes to -/
def SecDone (g q : Nat) (s : List UInt8) (k : Nat) (p : Prg) (w : World) (R : World → PV → Prop) (e : Ending) (w' : World) : Prop :=
  e = .returned (.tuple #[]) ∧ ∃ a b wd, RdAt w' g s a b wd ∧ errS s.length a b wd = secE k s ∧ Else2 g q w w' ∧ ∃ p' v', PBox w' q p' v' ∧ (secE k s = 0 → p' = secP k s p ∧ R w' v')
set_option maxRecDepth 100000 in
set_option maxHeartbeats 2000000 in
theorem sec_one (g q : Nat) (hgq : g ≠ q) (s : List UInt8) (hs : s.length ≤ 1000000000000000) (p : Prg) (v : PV) (w : World) (HB : PBox w q p v) (h : RdAt w g s 0 0 false) :
    Calls Try.prog 76 #[.pointer (some ⟨g, 0, none⟩), .pointer (some ⟨q, 0, none⟩)] w (SecDone g q s 0 p w fun _ v' => v' = v) := by
  have Hc := Lib.hid (rd_ints g s hs 0 0 false (i64_small (by omega)) 4 (by omega) w h)
  have HE : Hid (secE 0 s = errS s.length (geta s 0 4).2.1 (if (geta s 0 4).2.2 = 0 ∧ (geta s 0 4).1.length ≠ 4 then 21 else (geta s 0 4).2.2) (wideL (geta s 0 4).1)) := Lib.hid rfl
  have HP : Hid (secP 0 s p = { p with grow := (cutL (geta s 0 4).1).getD 0 0, rest := (cutL (geta s 0 4).1).getD 1 0, extra := (cutL (geta s 0 4).1).getD 2 0, signs := (cutL (geta s 0 4).1).getD 3 0 }) := Lib.hid rfl
  have hb := @geta_err s 0 4
  rw [rdL_zero] at Hc
  rw [show ((4 : Nat) : Int) = 4 from rfl] at Hc
  generalize geta s 0 4 = r at Hc HE HP hb
  obtain ⟨l, r2, r3⟩ := r
  dsimp only at Hc HE HP hb
  have HBB := Lib.hid HB
  have hgl := h.lt
  have hql := HB.lt
  clear h HB
  unfold SecDone
  generalize secE 0 s = E at HE ⊢
  generalize secP 0 s p = P at HP ⊢
  by_cases h3 : r3 = 0
  rotate_left
  · have e := hb h3
    simp only [Prod.mk.injEq] at e
    obtain ⟨rfl, rfl, _⟩ := e
    have e1 : (r3 == 0) = false := beq_false_of_ne h3
    have H3 := Lib.hid h3
    rw [if_neg (fun h => h3 h.1)] at HE
    clear h3 hb
    go_enter Try.func76, Try.ntmps76
    repeat' (first | go_values | go_skip | go_guarded | go_step | go_upon)
    refine Calls.mono (Hc.out) ?_
    rintro _ w1 ⟨vl, rfl, ho1, hr1, he1⟩
    dsimp only
    obtain ⟨al, cl, rfl⟩ := ho1.form
    have c2 := hr1.c2
    have Hr1 := Lib.hid hr1
    have He1 := Lib.hid he1
    clear ho1 hr1 he1 Hc
    repeat' (first | go_values | go_skip | go_guarded | go_step | go_upon)
    go_end0
    exact ⟨rfl, _, _, _, Hr1.out, by rw [HE.out]; simp [wideL], Else2.of1 He1.out, p, v, HBB.out.els He1.out hgq, fun h0 => absurd h0 (by rw [HE.out]; unfold errS; rw [if_pos H3.out]; exact H3.out)⟩
  subst h3
  clear hb
  by_cases h4 : l.length = 4
  rotate_left
  · rw [if_pos ⟨rfl, h4⟩] at HE
    have e1 : ((l.length : Int) == 4) = false := beq_false_of_ne (by omega)
    have e2 : ((l.length : Int) != 4) = true := by rw [bne_iff_ne]; omega
    obtain ⟨n, hn⟩ : ∃ n, n = l.length := ⟨_, rfl⟩
    rw [← hn] at e1 e2
    clear h4
    go_enter Try.func76, Try.ntmps76
    repeat' (first | go_values | go_skip | go_guarded | go_step | go_upon)
    refine Calls.mono (Hc.out) ?_
    rintro _ w1 ⟨vl, rfl, ho1, hr1, he1⟩
    dsimp only
    obtain ⟨al, cl, rfl⟩ := ho1.form
    rw [cutL_len, ← hn]
    have c2 := hr1.c2
    have f2 := hr1.free 2
    have Hr1 := Lib.hid hr1
    have He1 := Lib.hid he1
    clear ho1 hr1 he1 Hc hn
    repeat' (first | go_values | go_skip | go_guarded | go_step | go_upon)
    go_end0
    exact ⟨rfl, _, _, _, Hr1.out.set2 21, by rw [HE.out, Bool.false_or], (Else2.of1 He1.out).setG _ _, p, v, (HBB.out.els He1.out hgq).setG hgq, fun h0 => absurd h0 (by rw [HE.out]; unfold errS; simp)⟩
  rw [if_neg (by simp [h4])] at HE
  obtain ⟨x0, x1, x2, x3, rfl⟩ : ∃ a b c d, l = [a, b, c, d] := by
    match l, h4 with
    | [a, b, c, d], _ => exact ⟨a, b, c, d, rfl⟩
  clear h4
  go_enter Try.func76, Try.ntmps76
  repeat' (first | go_values | go_skip | go_guarded | go_step | go_upon)
  refine Calls.mono (Hc.out) ?_
  rintro _ w1 ⟨vl, rfl, ho1, hr1, he1⟩
  dsimp only
  obtain ⟨al, cl, rfl, hcap, hcell⟩ := ho1.rd
  have hob : ∀ b off, al = some ⟨b, off, none⟩ → w.heap.size ≤ b := fun b off e => ho1.below (by rw [e]; rfl)
  rcases hcell with hcell | ⟨b, off, rfl, hbw, hcell⟩
  · simp [cutL] at hcell
  have hbw0 := hob b off rfl
  have hx0 := hcell 0 (by simp [cutL])
  have hx1 := hcell 1 (by simp [cutL])
  have hx2 := hcell 2 (by simp [cutL])
  have hx3 := hcell 3 (by simp [cutL])
  simp only [cutL, List.map_cons, List.map_nil, List.getD_cons_zero, List.getD_cons_succ, Nat.add_zero, List.length_cons, List.length_nil, Nat.zero_add, Nat.reduceAdd] at hx0 hx1 hx2 hx3 hcap HP ⊢
  generalize cutI x0 = y0 at *
  generalize cutI x1 = y1 at *
  generalize cutI x2 = y2 at *
  generalize cutI x3 = y3 at *
  have c2 := hr1.c2
  have Hr1 := Lib.hid hr1
  have He1 := Lib.hid he1
  have HQ1 := Lib.hid (HBB.out.els he1 hgq)
  have q0 : ∀ nq : GW (Else q w1), nq.1.cell? ⟨b, off, none⟩ = some (.int .i64 y0) := fun nq => by rw [World.cell?_of_block (w := w1) (nq.2.block b hbw (by omega))]; exact hx0
  have q1 : ∀ nq : GW (Else q w1), nq.1.cell? ⟨b, off + 1, none⟩ = some (.int .i64 y1) := fun nq => by rw [World.cell?_of_block (w := w1) (nq.2.block b hbw (by omega))]; exact hx1
  have q2 : ∀ nq : GW (Else q w1), nq.1.cell? ⟨b, off + 2, none⟩ = some (.int .i64 y2) := fun nq => by rw [World.cell?_of_block (w := w1) (nq.2.block b hbw (by omega))]; exact hx2
  have q3 : ∀ nq : GW (Else q w1), nq.1.cell? ⟨b, off + 3, none⟩ = some (.int .i64 y3) := fun nq => by rw [World.cell?_of_block (w := w1) (nq.2.block b hbw (by omega))]; exact hx3
  clear ho1 hr1 he1 Hc hob hcell hx0 hx1 hx2 hx3
  repeat' (go_not_at_region 4; first | go_values | go_skip | go_guarded | go_step | go_upon)
  refine wp_region_anyG (by kernel_rfl) (Else q w1) ?_
  refine wpAnyC_take (i := 0) (v := _) rfl (by kernel_rfl) (by kernel_rfl) (by kernel_rfl) (fun _ _ _ h => h) (Or.inl ⟨by rfl, fun w ⟨nq, hw⟩ => by (subst hw; go_simp <;> with_reducible rfl)⟩) (by go_simp <;> with_reducible rfl) ?_
  refine wpAnyC_take (i := 1) (v := _) rfl (by kernel_rfl) (by kernel_rfl) (by kernel_rfl) (fun _ _ _ h => h) (Or.inl ⟨by rfl, fun w ⟨nq, hw⟩ => by (subst hw; go_simp <;> with_reducible rfl)⟩) (by go_simp <;> with_reducible rfl) ?_
  refine wpAnyC_take (i := 2) (v := _) rfl (by kernel_rfl) (by kernel_rfl) (by kernel_rfl) (fun _ _ _ h => h) (Or.inl ⟨by rfl, fun w ⟨nq, hw⟩ => by (subst hw; go_simp <;> with_reducible rfl)⟩) (by go_simp <;> with_reducible rfl) ?_
  refine wpAnyC_take (i := 3) (v := _) rfl (by kernel_rfl) (by kernel_rfl) (by kernel_rfl) (fun _ _ _ h => h) (Or.inl ⟨by rfl, fun w ⟨nq, hw⟩ => by (subst hw; go_simp <;> with_reducible rfl)⟩) (by go_simp <;> with_reducible rfl) ?_
  refine wpAnyC_take (i := 4) (v := _) rfl (by kernel_rfl) (by kernel_rfl) (by kernel_rfl) (fun _ _ _ h => h) (Or.inl ⟨by rfl, fun w ⟨nq, hw⟩ => by (subst hw; go_simp <;> with_reducible rfl)⟩) (by go_simp <;> with_reducible rfl) ?_
  refine wpAnyC_take (i := 5) (v := _) rfl (by kernel_rfl) (by kernel_rfl) (by kernel_rfl) (fun _ _ _ h => h) (Or.inl ⟨by rfl, fun w ⟨nq, hw⟩ => by (subst hw; go_simp <;> with_reducible rfl)⟩) (by go_simp <;> with_reducible rfl) ?_
  refine wpAnyC_take (i := 6) (v := _) rfl (by kernel_rfl) (by kernel_rfl) (by kernel_rfl) (fun _ _ _ h => h) (Or.inl ⟨by rfl, fun w ⟨nq, hw⟩ => by (subst hw; go_simp <;> with_reducible rfl)⟩) (by go_simp <;> with_reducible rfl) ?_
  refine wpAnyC_take (i := 7) (v := _) rfl (by kernel_rfl) (by kernel_rfl) (by kernel_rfl) (fun _ _ _ h => h) (Or.inl ⟨by rfl, fun w ⟨nq, hw⟩ => by (subst hw; go_simp <;> with_reducible rfl)⟩) (by go_simp <;> with_reducible rfl) ?_
  refine wpAnyC_take (i := 8) (v := _) rfl (by kernel_rfl) (by kernel_rfl) (by kernel_rfl) (fun _ _ _ h => h) (Or.inl ⟨by rfl, fun w ⟨nq, hw⟩ => by (subst hw; go_simp <;> with_reducible rfl)⟩) (by go_simp <;> with_reducible rfl) ?_
  refine wpAnyC_take (i := 9) (v := _) rfl (by kernel_rfl) (by kernel_rfl) (by kernel_rfl) (fun _ _ _ h => h) (Or.inl ⟨by rfl, fun w ⟨nq, hw⟩ => by (subst hw; go_simp <;> with_reducible rfl)⟩) (by go_simp <;> with_reducible rfl) ?_
  refine wpAnyC_take (i := 10) (v := _) rfl (by kernel_rfl) (by kernel_rfl) (by kernel_rfl) (fun _ _ _ h => h) (Or.inl ⟨by rfl, fun w ⟨nq, hw⟩ => by (subst hw; go_simp <;> with_reducible rfl)⟩) (by go_simp <;> with_reducible rfl) ?_
  refine wpAnyC_take (i := 11) (v := _) rfl (by kernel_rfl) (by kernel_rfl) (by kernel_rfl) (fun _ _ _ h => h) (Or.inl ⟨by rfl, fun w ⟨nq, hw⟩ => by (subst hw; go_simp <;> with_reducible rfl)⟩) (by go_simp <;> with_reducible rfl) ?_
  refine wpAnyC_take (i := 12) (v := _) rfl (by kernel_rfl) (by kernel_rfl) (by kernel_rfl) (fun _ _ _ h => h) (Or.inl ⟨by rfl, fun w ⟨nq, hw⟩ => by (subst hw; go_simp <;> with_reducible rfl)⟩) (by go_simp <;> with_reducible rfl) ?_
  refine wpAnyC_take (i := 13) (v := _) rfl (by kernel_rfl) (by kernel_rfl) (by kernel_rfl) (fun _ _ _ h => h) (Or.inl ⟨by rfl, fun w ⟨nq, hw⟩ => by (subst hw; go_simp <;> with_reducible rfl)⟩) (by go_simp <;> with_reducible rfl) ?_
  refine wpAnyC_take (i := 14) (v := _) rfl (by kernel_rfl) (by kernel_rfl) (by kernel_rfl) (fun _ _ _ h => h) (Or.inl ⟨by rfl, fun w ⟨nq, hw⟩ => by (subst hw; go_simp <;> with_reducible rfl)⟩) (by go_simp <;> with_reducible rfl) ?_
  refine wpAnyC_take (i := 15) (v := _) rfl (by kernel_rfl) (by kernel_rfl) (by kernel_rfl) (fun _ _ _ h => h) (Or.inl ⟨by rfl, fun w ⟨nq, hw⟩ => by (subst hw; go_simp <;> with_reducible rfl)⟩) (by go_simp <;> with_reducible rfl) ?_
  clear q0 q1 q2 q3
  refine wpAnyC_take (i := 16) (v := _) rfl (by kernel_rfl) (by kernel_rfl) (by kernel_rfl) (fun _ _ _ h => h) (Or.inl ⟨by rfl, fun w ⟨nq, hw⟩ => by (subst hw; go_simp <;> with_reducible rfl)⟩) (by go_simp <;> with_reducible rfl) ?_
  refine wpAnyC_take (i := 17) (v := _) rfl (by kernel_rfl) (by kernel_rfl) (by kernel_rfl) (fun _ _ _ h => h) (Or.inl ⟨by rfl, fun w ⟨nq, hw⟩ => by (subst hw; go_simp <;> with_reducible rfl)⟩) (by go_simp <;> with_reducible rfl) ?_
  refine genG (fun W => PBox W q p v ∧ Else q w1 W) ⟨HQ1.out.keep ((Below.refl _ _).drew), Else.of_below ((Below.refl _ _).drew)⟩ ?_
  rintro W2 ⟨hq, he⟩
  have HQ2 := Lib.hid hq
  have HE2 := Lib.hid he
  clear hq he HQ1
  have cc := HQ2.out.cell 0
  have ff := HQ2.out.free 0
  refine wpAnyC_ready (CG.of (HE2.out)) (rs := [18]) (by kernel_rfl) (by simp) ?_
  refine (AllReadyC.cons rfl (fun K hK => ?_) AllReadyC.nil)
  go_simp
  refine hK _ _ ?_
  clear hK K
  refine genG (fun W => PBox W q { p with grow := y0 } v ∧ Else q w1 W) ⟨HQ2.out.set0 _, HE2.out.setCell _ _⟩ ?_
  rintro W3 ⟨hq, he⟩
  have HQ3 := Lib.hid hq
  have HE3 := Lib.hid he
  clear hq he cc ff HQ2 HE2
  refine wpAnyC_take (i := 19) (v := _) rfl (by kernel_rfl) (by kernel_rfl) (by kernel_rfl) (fun _ _ _ h => h) (Or.inl ⟨by rfl, fun w ⟨nq, hw⟩ => by (subst hw; go_simp <;> with_reducible rfl)⟩) (by go_simp <;> with_reducible rfl) ?_
  refine wpAnyC_take (i := 20) (v := _) rfl (by kernel_rfl) (by kernel_rfl) (by kernel_rfl) (fun _ _ _ h => h) (Or.inl ⟨by rfl, fun w ⟨nq, hw⟩ => by (subst hw; go_simp <;> with_reducible rfl)⟩) (by go_simp <;> with_reducible rfl) ?_
  have cc := HQ3.out.cell 1
  have ff := HQ3.out.free 1
  refine wpAnyC_ready (CG.of (HE3.out)) (rs := [21]) (by kernel_rfl) (by simp) ?_
  refine (AllReadyC.cons rfl (fun K hK => ?_) AllReadyC.nil)
  go_simp
  refine hK _ _ ?_
  clear hK K
  refine genG (fun W => PBox W q { p with grow := y0, rest := y1 } v ∧ Else q w1 W) ⟨HQ3.out.set1 _, HE3.out.setCell _ _⟩ ?_
  rintro W4 ⟨hq, he⟩
  have HQ4 := Lib.hid hq
  have HE4 := Lib.hid he
  clear hq he cc ff HQ3 HE3
  refine wpAnyC_take (i := 22) (v := _) rfl (by kernel_rfl) (by kernel_rfl) (by kernel_rfl) (fun _ _ _ h => h) (Or.inl ⟨by rfl, fun w ⟨nq, hw⟩ => by (subst hw; go_simp <;> with_reducible rfl)⟩) (by go_simp <;> with_reducible rfl) ?_
  refine wpAnyC_take (i := 23) (v := _) rfl (by kernel_rfl) (by kernel_rfl) (by kernel_rfl) (fun _ _ _ h => h) (Or.inl ⟨by rfl, fun w ⟨nq, hw⟩ => by (subst hw; go_simp <;> with_reducible rfl)⟩) (by go_simp <;> with_reducible rfl) ?_
  have cc := HQ4.out.cell 2
  have ff := HQ4.out.free 2
  refine wpAnyC_ready (CG.of (HE4.out)) (rs := [24]) (by kernel_rfl) (by simp) ?_
  refine (AllReadyC.cons rfl (fun K hK => ?_) AllReadyC.nil)
  go_simp
  refine hK _ _ ?_
  clear hK K
  refine genG (fun W => PBox W q { p with grow := y0, rest := y1, extra := y2 } v ∧ Else q w1 W) ⟨HQ4.out.set2 _, HE4.out.setCell _ _⟩ ?_
  rintro W5 ⟨hq, he⟩
  have HQ5 := Lib.hid hq
  have HE5 := Lib.hid he
  clear hq he cc ff HQ4 HE4
  refine wpAnyC_take (i := 25) (v := _) rfl (by kernel_rfl) (by kernel_rfl) (by kernel_rfl) (fun _ _ _ h => h) (Or.inl ⟨by rfl, fun w ⟨nq, hw⟩ => by (subst hw; go_simp <;> with_reducible rfl)⟩) (by go_simp <;> with_reducible rfl) ?_
  refine wpAnyC_take (i := 26) (v := _) rfl (by kernel_rfl) (by kernel_rfl) (by kernel_rfl) (fun _ _ _ h => h) (Or.inl ⟨by rfl, fun w ⟨nq, hw⟩ => by (subst hw; go_simp <;> with_reducible rfl)⟩) (by go_simp <;> with_reducible rfl) ?_
  have cc := HQ5.out.cell 3
  have ff := HQ5.out.free 3
  refine wpAnyC_ready (CG.of (HE5.out)) (rs := [27]) (by kernel_rfl) (by simp) ?_
  refine (AllReadyC.cons rfl (fun K hK => ?_) AllReadyC.nil)
  go_simp
  refine hK _ _ ?_
  clear hK K
  refine genG (fun W => PBox W q { p with grow := y0, rest := y1, extra := y2, signs := y3 } v ∧ Else q w1 W) ⟨HQ5.out.set3 _, HE5.out.setCell _ _⟩ ?_
  rintro W6 ⟨hq, he⟩
  have HQ6 := Lib.hid hq
  have HE6 := Lib.hid he
  clear hq he cc ff HQ5 HE5
  refine wpAnyC_done (by kernel_rfl) (CG.of (HE6.out)) (by go_simp <;> with_reducible rfl) ?_
  repeat' (first | go_values | go_skip | go_guarded | go_step | go_upon)
  go_end0
  exact ⟨rfl, _, _, _, HE6.out.row Hr1.out (by omega), by rw [HE.out, Bool.false_or], (Else2.of1 He1.out).trans ⟨HE6.out.os, HE6.out.tape, HE6.out.output, HE6.out.size, fun k hk _ h2 => HE6.out.block k hk h2⟩, _, v, HQ6.out, fun _ => ⟨HP.out.symm, rfl⟩⟩
end Go.Proofs.Ytbomloodllddaaa
/- Walks: the sections of code and of texts are read (load.sections). Conditions: the text is of at most 10^15 bytes; reader and program lie in variables of their own. -/
namespace Go.Proofs.Ytbomloodllddaaa
open Go.RowKit
set_option maxRecDepth 100000 in
set_option maxHeartbeats 1000000 in
theorem sec_two (g q : Nat) (hgq : g ≠ q) (s : List UInt8) (hs : s.length ≤ 1000000000000000) (p : Prg) (v : PV) (w : World) (HB : PBox w q p v) (h : RdAt w g s 0 0 false) :
    Calls Try.prog 78 #[.pointer (some ⟨g, 0, none⟩), .pointer (some ⟨q, 0, none⟩)] w (SecDone g q s 1 p w fun w' v' => v' = { v with vc := v'.vc } ∧ OwnR icL 5 w.heap.size 118 w' v'.vc (getI s).2) := by
  have Hc := Lib.hid (isa_GetO s hs w)
  have HE : Hid (secE 1 s = (getI s).1) := Lib.hid rfl
  have HP : Hid (secP 1 s p = { p with code := (getI s).2 }) := Lib.hid rfl
  have hsz := arr_size s
  have hlen : (⟨s.toArray⟩ : ByteArray).size = s.length := hsz
  generalize getI s = r at Hc HE HP ⊢
  obtain ⟨r1, r2⟩ := r
  dsimp only at Hc HE HP ⊢
  have HBB := Lib.hid HB
  have Hr := Lib.hid h
  have c0 := h.c0
  have hgl := h.lt
  have hql := HB.lt
  clear h HB
  unfold SecDone
  generalize secE 1 s = E at HE ⊢
  generalize secP 1 s p = P at HP ⊢
  go_enter Try.func78, Try.ntmps78
  repeat' (first | go_values | go_skip | go_guarded | go_step | go_upon)
  refine Calls.mono (Hc.out) ?_
  rintro _ w1 ⟨vl, rfl, ho1, hb1⟩
  dsimp only
  have Hr1 := Lib.hid (Hr.out.keep hb1)
  have HB1 := Lib.hid (HBB.out.keep hb1)
  obtain ⟨al, cl, hvl, _, _⟩ := ho1.form
  subst hvl
  have Ho1 := Lib.hid ho1
  have Hb1 := Lib.hid hb1
  have d0 := Hr1.out.c0
  have d1 := Hr1.out.c1
  have d2 := Hr1.out.c2
  have f1 := Hr1.out.free 1
  have f2 := Hr1.out.free 2
  have k4 : w1.cell? ⟨q, 4, none⟩ = some v.vc := HB1.out.cell 4
  have f4 := HB1.out.free 4
  clear ho1 hb1 Hc c0 Hr HBB
  repeat' (first | go_values | go_skip | go_guarded | go_step | go_upon)
  go_end0
  have hq2 := HB1.out.set4 (.slice al r2.length cl) r2
  have e2 := ((Else2.of1 (g := g) (q := q) (Else.of_below Hb1.out)).setQ 4 (.slice al r2.length cl)).setG 2 (.int .i64 r1)
  have hr2 := ((Hr1.out.setQ (o := 4) (u := .slice al r2.length cl) hgq).set2 r1).set1 s.length
  have ho2 : OwnR icL 5 w.heap.size 118 (((w1.setCell ⟨q, 4, none⟩ (.slice al r2.length cl)).setCell ⟨g, 2, none⟩ (.int .i64 r1)).setCell ⟨g, 1, none⟩ (.int .i64 s.length)) (.slice al r2.length cl) r2 :=
    ((Ho1.out.setOther (fun k hk => by have := (Ho1.out.below hk).1; omega)).setOther (fun k hk => by have := (Ho1.out.below hk).1; omega)).setOther (fun k hk => by have := (Ho1.out.below hk).1; omega)
  exact ⟨rfl, _, _, _, hr2, by rw [HE.out]; unfold errS; by_cases h0 : r1 = 0 <;> simp [h0], e2.setG 1 _, _, _, (hq2.setG hgq).setG hgq, fun _ => ⟨HP.out.symm, rfl, ho2⟩⟩
end Go.Proofs.Ytbomloodllddaaa
/- Walk: the section of texts is read (load.sections). Conditions: the text is of at most 10^15 bytes; reader and program lie in variables of their own. -/
namespace Go.Proofs.Ytbomloodllddaaa
open Go.RowKit
theorem genUw {P : Program} {md : Region.Mode} {ops : Array Oper} {C : World → Prop} {u : Nat} {Q : Exit → Act → World → Prop} {fuel : Nat} {listed : Array Bool} {a : Act} {w : World} (F : World → Prop) (hF : F w) (h : ∀ w', F w' → wpAnyU P md ops C u Q fuel listed a w') : wpAnyU P md ops C u Q fuel listed a w := h w hF
theorem info_str25 : (Try.prog.info? 9).map (fun i => (i.zero, i.size, i.bytes)) = some (some (.string ⟨#[]⟩), 1, 16) := by kernel_rfl
theorem strC_one25 (l : List UInt8) : ∀ u ∈ strC l, u.oneCell' = true := fun u hu => by
  simp [strC] at hu; subst hu; rfl
theorem row_new {α : Type} {f : α → List Value} {sz : Nat} (w : World) (x : α) (e : TypeId) (hf : (f x).length = sz) (cs : Array Value) (hcs : cs = (f x).toArray) : RowOf f sz (w.alloc (.cells cs e)) (.slice (some ⟨w.heap.size, 0, none⟩) 1 1) [x] := by
  subst hcs
  refine ⟨some ⟨w.heap.size, 0, none⟩, 1, rfl, Nat.le_refl _, by unfold maxLen; omega, by simp [hf], .inr ⟨w.heap.size, 0, rfl, by simp, fun i hi => ?_⟩⟩
  rw [Nat.zero_add, cell_of_row _ w.heap.size i _ e (0, 0) (Go.heap_alloc_new w _)]
  simp
theorem gett_cases (s : List UInt8) (hs : s.length ≤ 1000000000000000) (a : Int) : I64 (gett s a 4096).2.1 ∧ (gett s a 4096).1.length ≤ 4096 := by
  rcases vget_cases s a with ⟨e, hv, he⟩ | ⟨m, k, n, rfl, hk, hmk, hp, hn, hv⟩
  · rw [gett_bad hv (by omega)]; exact ⟨(show I64 0 from i64_small (by omega)), by simp⟩
  · by_cases h1 : max (4096 : Int) 0 < (n : Int)
    · rw [gett_long hv h1]; exact ⟨(show I64 0 from i64_small (by omega)), by simp⟩
    · by_cases h2 : (s.length : Int) - ((m : Int) + k + 1) < n
      · rw [gett_short hv h1 h2]; exact ⟨(show I64 0 from i64_small (by omega)), by simp⟩
      · have hv' : vget s m = (n, ((m + k + 1 : Nat) : Int), 0) := by rw [hv]; push_cast; rfl
        rw [gett_ok hv' h1 (by push_cast; omega)]
        refine ⟨?_, ?_⟩
        · show I64 (((m + k + 1 : Nat) : Int) + n)
          unfold I64; omega
        · show (List.take n _).length ≤ 4096
          rw [List.length_take]; omega
theorem rdC_le (s : List UInt8) (most : Nat) : (rdC s most).1 ≤ most := by
  unfold rdC
  split
  · exact Nat.zero_le _
  · split
    · exact Nat.zero_le _
    · omega
theorem rdC_i64 (s : List UInt8) (hs : s.length ≤ 1000000000000000) (most : Nat) : I64 (rdC s most).2.1 := by
  unfold rdC
  split
  · exact (show I64 0 from i64_small (by omega))
  · split
    · exact (show I64 0 from i64_small (by omega))
    · exact vgetI_i64 hs 0
/-- the loop of texts -/
structure XS (g q : Nat) (s : List UInt8) (p : Prg) (v : PV) (w : World) (R : List (List UInt8) × Int × Int) (m : Nat) (a bad : Int) (l : List (List UInt8)) (vx : Value) (w' : World) : Prop where
  rd : RdAt w' g s a bad false
  box : PBox w' q { p with texts := l } { v with vx := vx }
  own : OwnR strC 1 w.heap.size 9 w' vx l
  els : Else2 g q w w'
  at' : I64 a
  len : l.length + m ≤ 4097
  good : bad = 0 → aheadX l (textsF s m a) = R ∧ (∀ x ∈ l, x.length ≤ 4096) ∧ l.length + m ≤ 4096
  wrong : bad ≠ 0 → R = ([], 0, bad)
set_option maxRecDepth 100000 in
set_option maxHeartbeats 2000000 in
theorem sec_four (g q : Nat) (hgq : g ≠ q) (s : List UInt8) (hs : s.length ≤ 1000000000000000) (p : Prg) (v : PV) (w : World) (HB : PBox w q p v) (h : RdAt w g s 0 0 false) (hp : p.texts = []) (hv : v.vx = .slice none 0 0) :
    Calls Try.prog 83 #[.pointer (some ⟨g, 0, none⟩), .pointer (some ⟨q, 0, none⟩)] w (SecDone g q s 3 p w fun w' v' => v' = { v with vx := v'.vx } ∧ OwnR strC 1 w.heap.size 9 w' v'.vx (sec4F s).1 ∧ ∀ x ∈ (sec4F s).1, x.length ≤ 4096) := by
  have Hc := Lib.hid (rd_count g s hs 4096 (by omega) w h)
  have HE : Hid (secE 3 s = errS s.length (sec4F s).2.1 (sec4F s).2.2 false) := Lib.hid rfl
  have HP : Hid (secP 3 s p = { p with texts := (sec4F s).1 }) := Lib.hid rfl
  have HR : sec4F s = if (rdC s 4096).2.2 ≠ 0 then ([], 0, (rdC s 4096).2.2) else textsF s (rdC s 4096).1 (rdC s 4096).2.1 := rfl
  have hcl := rdC_le s 4096
  have hci := rdC_i64 s hs 4096
  rw [show ((4096 : Nat) : Int) = 4096 from rfl] at Hc
  generalize rdC s 4096 = c at Hc HR hcl hci
  obtain ⟨n, a0, b0⟩ := c
  dsimp only at Hc HR hcl hci
  generalize sec4F s = R at HE HP HR ⊢
  have hgl := h.lt
  have hql := HB.lt
  have hX0 : ∀ w1, RdAt w1 g s a0 b0 false → Else g w w1 → XS g q s p v w R n a0 b0 [] v.vx w1 := fun w1 hr he => by
    refine ⟨hr, ?_, by rw [hv]; exact OwnR.nil, Else2.of1 he, hci, by simp; omega, fun h0 => ⟨?_, by simp, by simp; omega⟩, fun h0 => by rw [HR, if_pos h0]⟩
    · have := HB.els he hgq
      rw [← hp]; exact this
    · rw [HR, if_neg (by simpa using h0), aheadX_nil]
  have HX0 := Lib.hid hX0
  have Hgt := Lib.hid (gett_cases s hs)
  clear HR hX0 hp hv hci h HB
  unfold SecDone
  generalize secE 3 s = E at HE ⊢
  generalize secP 3 s p = P at HP ⊢
  have hgw := hgl
  go_enter Try.func83, Try.ntmps83
  repeat' (first | go_values | go_skip | go_guarded | go_step | go_upon)
  refine Calls.mono (Hc.out) ?_
  rintro _ w1 ⟨rfl, hr1, he1⟩
  dsimp only
  have HX1 := Lib.hid (HX0.out w1 hr1 he1)
  clear hr1 he1 Hc HX0
  repeat' (first | go_values | go_skip | go_guarded | go_step | go_upon)
  go_loopw [4] (fun s4 wr => ∃ (m : Nat) (a bad : Int) (l : List (List UInt8)) (vx : Value), s4 = .int .i64 m ∧ Hid (XS g q s p v w R m a bad l vx wr)) (fun s4 _ => (intOf s4).toNat)
  case atStart => exact ⟨n, _, _, _, _, rfl, HX1⟩
  case round =>
    clear HX1
    obtain ⟨m, a, bad, l, vx, rfl, HX⟩ := hrel
    have c2 := HX.out.rd.c2
    have hml := HX.out.len
    by_cases h0 : bad = 0
    · subst h0
      rcases Nat.eq_zero_or_pos m with rfl | hm
      · have hR : Hid (R = (l, a, 0)) := Lib.hid (by rw [← ((HX.out.good rfl).1)]; exact aheadX_zero s l a)
        have hT := Lib.hid (HX.out.good rfl).2.1
        repeat' (first | go_values | go_skip | go_guarded | go_step | go_upon)
        go_end0
        refine ⟨rfl, a, 0, false, HX.out.rd, by rw [HE.out, hR.out], HX.out.els, _, _, HX.out.box, fun _ => ⟨by rw [HP.out, hR.out], rfl, by rw [hR.out]; exact HX.out.own, by rw [hR.out]; exact hT.out⟩⟩
      · obtain ⟨k, rfl⟩ : ∃ k, m = k + 1 := ⟨m - 1, by omega⟩
        have Hx := Lib.hid fun W (hW : RdAt W g s a 0 false) => rd_text g s hs a false HX.out.at' W hW
        obtain ⟨hgi, hgl4⟩ := Hgt.out a
        obtain ⟨r, hr⟩ : ∃ r, r = gett s a 4096 := ⟨_, rfl⟩
        rw [← hr] at Hx hgi hgl4
        have Hg1 : Hid (r.2.2 ≠ 0 → R = ([], 0, r.2.2)) := Lib.hid fun h => by rw [← (HX.out.good rfl).1, aheadX_bad l (by rw [← hr]; exact h), hr]
        have Hg2 : Hid (r.2.2 = 0 → aheadX (l ++ [r.1]) (textsF s k r.2.1) = R) := Lib.hid fun h => by rw [← (HX.out.good rfl).1, aheadX_step l (by rw [← hr]; exact h), hr]
        have hll := (HX.out.good rfl).2.2
        have Hll := Lib.hid (HX.out.good rfl).2.1
        clear hr
        obtain ⟨r1, r2, r3⟩ := r
        dsimp only at Hx hgi hgl4 Hg1 Hg2
        obtain ⟨xa, xc, hvx, _, _⟩ := HX.out.own.form
        subst hvx
        obtain ⟨vx, hvx⟩ : ∃ vx, vx = Value.slice xa l.length xc := ⟨_, rfl⟩
        rw [← hvx] at HX
        obtain ⟨C, hC⟩ : ∃ C : World → Prop, C = fun W => PBox W q { p with texts := l } { v with vx := vx } := ⟨_, rfl⟩
        have Hmk : Hid (∀ W, PBox W q { p with texts := l } { v with vx := vx } → C W) := Lib.hid (fun W h => by rw [hC]; exact h)
        have hC' : ∀ W, C W → PBox W q { p with texts := l } { v with vx := vx } := fun W h => by rw [hC] at h; exact h
        have q0 : ∀ nq : GW C, nq.1.cell? ⟨q, 6, none⟩ = some (.slice xa l.length xc) := fun nq => by
          rw [← hvx]; exact (hC' _ nq.2).cell 6
        clear hC hC'
        have hwr : w.heap.size ≤ wr.heap.size := HX.out.els.size
        repeat' (go_not_at_region 3; first | go_values | go_skip | go_guarded | go_step | go_upon)
        refine wp_region_anyU (by kernel_rfl) C 11 ?_
        refine wpAnyU_take (i := 0) (v := _) rfl (by kernel_rfl) (by kernel_rfl) (by kernel_rfl) (by kernel_rfl) (by kernel_rfl) (fun _ _ _ h => h) (Or.inl ⟨by rfl, fun w ⟨nq, hw⟩ => by (subst hw; go_simp; first | exact ⟨rfl, rfl⟩ | rfl)⟩) (by go_simp <;> with_reducible rfl) ?_
        refine wpAnyU_take (i := 1) (v := _) rfl (by kernel_rfl) (by kernel_rfl) (by kernel_rfl) (by kernel_rfl) (by kernel_rfl) (fun _ _ _ h => h) (Or.inl ⟨by rfl, fun w ⟨nq, hw⟩ => by (subst hw; go_simp; first | exact ⟨rfl, rfl⟩ | rfl)⟩) (by go_simp <;> with_reducible rfl) ?_
        refine wpAnyU_take (i := 2) (v := _) rfl (by kernel_rfl) (by kernel_rfl) (by kernel_rfl) (by kernel_rfl) (by kernel_rfl) (fun _ _ _ h => h) (Or.inl ⟨by rfl, fun w ⟨nq, hw⟩ => by (subst hw; go_simp; first | exact ⟨rfl, rfl⟩ | rfl)⟩) (by go_simp <;> with_reducible rfl) ?_
        refine wpAnyU_take (i := 3) (v := _) rfl (by kernel_rfl) (by kernel_rfl) (by kernel_rfl) (by kernel_rfl) (by kernel_rfl) (fun _ _ _ h => h) (Or.inl ⟨by rfl, fun w ⟨nq, hw⟩ => by (subst hw; go_simp; first | exact ⟨rfl, rfl⟩ | rfl)⟩) (by go_simp <;> with_reducible rfl) ?_
        refine wpAnyU_take (i := 4) (v := _) rfl (by kernel_rfl) (by kernel_rfl) (by kernel_rfl) (by kernel_rfl) (by kernel_rfl) (fun _ _ _ h => h) (Or.inl ⟨by rfl, fun w ⟨nq, hw⟩ => by (subst hw; go_simp; first | exact ⟨rfl, rfl⟩ | rfl)⟩) (by go_simp <;> with_reducible rfl) ?_
        refine wpAnyU_take (i := 5) (v := _) rfl (by kernel_rfl) (by kernel_rfl) (by kernel_rfl) (by kernel_rfl) (by kernel_rfl) (fun _ _ _ h => h) (Or.inl ⟨by rfl, fun w ⟨nq, hw⟩ => by (subst hw; go_simp; first | exact ⟨rfl, rfl⟩ | rfl)⟩) (by go_simp <;> with_reducible rfl) ?_
        clear q0
        refine genUw (fun W => Below wr.heap.size wr W) ((Below.refl _ _).drew) ?_
        intro W0 hb0
        have HB0 := Lib.hid (HX.out.box.keep hb0)
        have HR0 := Lib.hid (HX.out.rd.keep hb0)
        have HO0 : Hid (OwnR strC 1 w.heap.size 9 W0 vx l) := Lib.hid (HX.out.own.keep hb0 (Nat.le_refl _))
        have HE0 : Hid (Else2 g q w W0) := Lib.hid (HX.out.els.trans (Else2.of1 (Else.of_below hb0)))
        clear hb0
        refine wpAnyU_ready (CG.of (Hmk.out _ HB0.out)) (rs := [6]) (by kernel_rfl) (by simp) ?_
        refine (AllReadyU.cons rfl (fun K hK => ?_) AllReadyU.nil)
        go_simp
        refine Calls.mono ((Hx.out W0 HR0.out)) ?_
        rintro _ W1 ⟨rfl, hr1, he1⟩
        dsimp only
        refine hK _ _ ?_
        clear hK K
        have HB1 := Lib.hid (HB0.out.els he1 hgq)
        have HR1 := Lib.hid hr1
        have HO1 : Hid (OwnR strC 1 w.heap.size 9 W1 vx l) := Lib.hid (HO0.out.els he1 HR0.out (by decide))
        have HE1 : Hid (Else2 g q w W1) := Lib.hid (HE0.out.trans (Else2.of1 he1))
        clear hr1 he1 HB0 HR0 HO0 HE0
        refine wpAnyU_ready (CG.of (Hmk.out _ HB1.out)) (rs := [7]) (by kernel_rfl) (by simp) ?_
        refine (AllReadyU.cons rfl (fun K hK => ?_) AllReadyU.nil)
        go_simp
        refine hK _ _ ?_
        clear hK K
        have hab : Below W1.heap.size W1 (W1.alloc (.cells #[.string ⟨r1.toArray⟩] 9)) := (Below.refl _ _).alloc (Nat.le_refl _) _
        refine genUw (fun W => PBox W q { p with texts := l } { v with vx := vx } ∧ RdAt W g s r2 r3 false ∧ OwnR strC 1 w.heap.size 9 W vx l ∧ Else2 g q w W ∧ RowOf strC 1 W (.slice (some ⟨W1.heap.size, 0, none⟩) 1 1) [r1]) ⟨HB1.out.keep hab, HR1.out.keep hab, HO1.out.keep hab (Nat.le_refl _), HE1.out.trans (Else2.of1 (Else.of_below hab)), row_new W1 r1 _ rfl _ rfl⟩ ?_
        rintro W2 ⟨hb2, hr2, ho2, he2, hrow⟩
        clear hab HB1 HR1 HO1 HE1
        refine wpAnyU_ready (CG.of (Hmk.out _ hb2)) (rs := [8]) (by kernel_rfl) (by simp) ?_
        refine (AllReadyU.cons rfl (fun K hK => ?_) AllReadyU.nil)
        rw [hvx] at ho2
        refine step_of rfl (app_rowW (f := strC) (sz := 1) 16 strC_len25 (fun y _ => strC_one25 y) Try.underlying24 info_str25 rfl (.tmp 22) (.tmp 25) rfl rfl hrow ho2 he2.size (by simp; omega) (by unfold maxLen; simp; omega) ?_)
        intro v1 W3 ho3 hg3
        refine hK _ _ ?_
        clear hK K
        have hnq : ∀ k, (Value.slice xa l.length xc).ownBlock = some k → w.heap.size ≤ k ∧ k ≠ q ∧ k ≠ g := fun k hk => by
          have h1 := ho2.below hk
          exact ⟨h1.1, by omega, by omega⟩
        have hB3 : PBox W3 q { p with texts := l } { v with vx := vx } := grown_obj hg3 hb2 fun e => (hnq q e).2.1 rfl
        have hR3 : RdAt W3 g s r2 r3 false := grown_obj hg3 hr2 fun e => (hnq g e).2.2 rfl
        have hE3 : Else2 g q w W3 := he2.belowB (grown_below hg3 he2.size fun k hk => (hnq k hk).1)
        clear hb2 hr2 ho2 he2 hrow hg3 hnq
        obtain ⟨a1, c1, e1, _, _⟩ := ho3.form
        rw [show (l ++ [r1]).length = l.length + 1 from by simp] at e1
        subst e1
        have o1 : W3.cell? ⟨q, 6, none⟩ = some vx := hB3.cell 6
        have f1 := hB3.free 6
        refine wpAnyU_ready (CG.of (Hmk.out _ hB3)) (rs := [9]) (by kernel_rfl) (by simp) ?_
        refine (AllReadyU.cons rfl (fun K hK => ?_) AllReadyU.nil)
        go_simp
        refine hK _ _ ?_
        clear hK K
        refine wpAnyU_take (i := 10) (v := _) rfl (by kernel_rfl) (by kernel_rfl) (by kernel_rfl) (by kernel_rfl) (by kernel_rfl) (fun _ _ _ h => h) (Or.inl ⟨by rfl, fun w ⟨nq, hw⟩ => by (subst hw; go_simp; first | exact ⟨rfl, rfl⟩ | rfl)⟩) (by go_simp <;> with_reducible rfl) ?_
        refine wpAnyU_ready (CG.of (Hmk.out _ hB3)) (rs := [11]) (by kernel_rfl) (by simp) ?_
        refine (AllReadyU.cons rfl (fun K hK => ?_) AllReadyU.nil)
        go_simp
        refine hK _ _ ?_
        clear hK K
        refine genUw (fun W => XS g q s p v w R k r2 r3 (l ++ [r1]) (.slice a1 (l.length + 1) c1) W) ⟨hR3.setQ hgq, hB3.set6 (.slice a1 (l.length + 1) c1) (l ++ [r1]), ho3.setOther (fun k hk => by have := (ho3.below hk).1; omega), hE3.setQ _ _, hgi, by simp; omega, fun h => ⟨Hg2.out h, fun x hx => ?_, by simp; omega⟩, Hg1.out⟩ ?_
        · rcases List.mem_append.1 hx with hx | hx
          · exact Hll.out x hx
          · simp at hx; rw [hx]; exact hgl4
        clear o1 f1 hB3 hR3 hE3 ho3
        intro W4 hx4
        have HX4 := Lib.hid hx4
        clear hx4
        refine wpAnyU_done (by kernel_rfl) (by kernel_rfl) (by go_simp <;> with_reducible rfl) ?_
        repeat' (first | go_values | go_skip | go_guarded | go_step | go_upon)
        go_roundw
        case rel => exact ⟨k, _, _, _, _, by go_num, HX4⟩
        case measure => simp [intOf]
    · have e1 : (bad == 0) = false := beq_false_of_ne h0
      have H0 := Lib.hid h0
      clear h0
      rcases Nat.eq_zero_or_pos m with rfl | hm
      all_goals
       repeat' (first | go_values | go_skip | go_guarded | go_step | go_upon)
       go_end0
       have h0 := H0.out
       have hR : Hid (R = ([], 0, bad)) := Lib.hid (HX.out.wrong h0)
       refine ⟨rfl, a, bad, false, HX.out.rd, by rw [HE.out, hR.out]; unfold errS; rw [if_pos h0, if_pos h0], HX.out.els, _, _, HX.out.box, fun h => absurd h (by rw [HE.out, hR.out]; unfold errS; rw [if_pos h0]; exact h0)⟩
end Go.Proofs.Ytbomloodllddaaa
