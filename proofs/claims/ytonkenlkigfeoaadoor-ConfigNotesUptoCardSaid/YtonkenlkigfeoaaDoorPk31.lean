/- Walks: the tree of one byte (one); boxes that hold a tree's node. Condition: a byte. -/
import Derived.Test.YtonkenlkigfeoaaDoorPk30
import Derived.Deep.CutBlock
import Derived.Test.YtonkenlkigfeoaaDoorPk04
import Derived.Test.YtonkenlkigfeoaaDoorPk09
import Derived.Test.YtonkenlkigfeoaaDoorPk27
import Derived.Test.YtonkenlkigfeoaaDoorPk07
namespace Go.Proofs.YtonkenlkigfeoaaDoor
open Go.RowKit Go.Lib
/-- a variable of the call's own that holds a node -/
def ReBox (w : World) (b : Nat) (r : RN) : Prop := w.heap[b]? = some (.cells (reC r).toArray 33 (0, 0))
def reZ : RN := ⟨0, (0, 0, 0, 0), 0, 0, .slice none 0 0⟩
noncomputable def setN (p : Nat → Bool) : RN := ⟨1, wS p, 0, 0, .slice none 0 0⟩
section
variable {w w' : World} {b : Nat} {r r0 : RN}
theorem ReBox.lt (h : ReBox w b r) : b < w.heap.size := (Array.getElem?_eq_some_iff.1 h).1
theorem ReBox.keep (h : ReBox w b r) (hb : Below w.heap.size w w') : ReBox w' b r := by unfold ReBox; rw [hb.block b h.lt]; exact h
theorem ReBox.els {g : Nat} (h : ReBox w b r) (he : Else g w w') (hne : b ≠ g) : ReBox w' b r := he.row h hne
theorem ReBox.new (w : World) (r : RN) : ReBox (w.alloc (.cells (reC r).toArray 33)) w.heap.size r := Go.heap_alloc_new _ _
theorem ReBox.zero (w : World) : ReBox (w.alloc (.cells #[.int .i64 0, .int .u64 0, .int .u64 0, .int .u64 0, .int .u64 0, .int .i64 0, .int .i64 0, .slice none 0 0] 33)) w.heap.size reZ := Go.heap_alloc_new _ _
theorem ReBox.set (h : ReBox w b r0) (r : RN) : ReBox (w.setRow b (reC r).toArray) b r := setRow_heap _ _ _ _ _ _ h
theorem ReBox.other {q : Nat} {cs : Array Value} (h : ReBox w b r) (hq : b ≠ q) : ReBox (w.setRow q cs) b r := by unfold ReBox; rw [setRow_other _ _ _ _ hq]; exact h
theorem ReBox.cellOther {q o : Nat} {u : Value} (h : ReBox w b r) (hq : b ≠ q) : ReBox (w.setCell ⟨q, o, none⟩ u) b r := by
 unfold ReBox; rw [show (w.setCell ⟨q, o, none⟩ u).heap[b]? = w.heap[b]? from Below.heap_setCell _ _ _ _ (by dsimp only; omega)]; exact h
theorem store_box {o : Oper} {a : Act} {K : Act → World → Prop} {Q : Exit → Act → World → Prop} (hs : ReBox w b r0) (r : RN) (hr : r.v.oneCell' = true) (x y : Operand) (ho : o.op = .store 33 x y)
   (hx : a.eval x = .pointer (some ⟨b, 0, none⟩)) (hy : a.eval y = reV r) (h : K (a.put o.dst undef) (w.setRow b (reC r).toArray)) : o.wp Tryd.prog a w K Q :=
 wp_store_row _ x y ho b (reC r).toArray hx hy 33 _ hs info_re rfl (re_one hr) h
theorem load_box {o : Oper} {a : Act} {K : Act → World → Prop} {Q : Exit → Act → World → Prop} (hs : ReBox w b r) (x : Operand) (ho : o.op = .load 33 x)
   (hx : a.eval x = .pointer (some ⟨b, 0, none⟩)) (h : K (a.put o.dst (reV r)) w) : o.wp Tryd.prog a w K Q :=
 wp_load_row _ x ho b hx 33 (reC r).toArray (0, 0) _ hs Tryd.underlying33 rfl info_re h
theorem results_re {fn : Func} {p' : Tmp} (h : fn.results = #[.cell p' 33]) (tmps : Array Value) (w : World) (b : Nat) (r : RN) (hp : tmps.getD p' undef = .pointer (some ⟨b, 0, none⟩)) (hs : ReBox w b r) :
   (results fn tmps).run Tryd.prog w = .ok (reV r) w :=
 results_cell_row h tmps w b 33 (reC r).toArray (0, 0) _ hp hs Tryd.underlying33 rfl info_re
theorem PsAt.row {w : World} {g q : Nat} {S : ByteArray} {i d : Nat} {cs : Array Value} (h : PsAt w g S i d) (hq : g ≠ q) : PsAt (w.setRow q cs) g S i d := by unfold PsAt; rw [setRow_other _ _ _ _ hq]; exact h
theorem Else.rowNew {w w' : World} {g q : Nat} (h : Else g w w') (hq : w.heap.size ≤ q) (cs : Array Value) : Else g w (w'.setRow q cs) :=
 ⟨h.os, h.tape, h.output, by simpa using h.size, fun k hk hne => by rw [setRow_other _ _ _ _ (by omega)]; exact h.block k hk hne⟩
end
set_option maxRecDepth 100000 in
theorem ps_one (c : Nat) (hc : c < 256) (w : World) : Calls Tryd.prog 83 #[.int .u8 (c : Int)] w fun e w' => e = .returned (reV (setN (oneB c))) ∧ Below w.heap.size w w' := by
 have HA : Hid (ReBox (w.alloc (.cells #[.int .i64 0, .int .u64 0, .int .u64 0, .int .u64 0, .int .u64 0, .int .i64 0, .int .i64 0, .slice none 0 0] 33)) w.heap.size reZ ∧ Below w.heap.size w (w.alloc (.cells #[.int .i64 0, .int .u64 0, .int .u64 0, .int .u64 0, .int .u64 0, .int .i64 0, .int .i64 0, .slice none 0 0] 33))) := Lib.hid ⟨ReBox.zero w, (Below.refl _ _).alloc (Nat.le_refl _) _⟩; have kc := fun W => k_of c hc W
 go_enter Tryd.func83, Tryd.ntmps83
 repeat' (go_not_at_region 1; first | go_values | go_skip | go_guarded | go_step | go_upon)
 generalize hB : w.heap.size = B at HA ⊢; refine gen_wd (fun W => ReBox W B reZ ∧ Below B w W) HA.out ?_; clear HA; rintro w1 ⟨hr, hb⟩; have HR := Lib.hid hr; have HB := Lib.hid hb; have hz := hr.lt; clear hr hb; wkka (first | (with_reducible refine wp_conv_lit1 Tryd.underlying94 Tryd.underlying5 Tryd.underlying9 rfl _ rfl rfl ?_)); refine Calls.mono ((kc _)) ?_; rintro _ w2 ⟨rfl, hb⟩; dsimp only; have hal := (Below.refl w1.heap.size w1).alloc (Nat.le_refl _) (.cells #[.int .u8 (c : Int)] 5); have HX := Lib.hid ((HR.out.keep hal).keep hb)
 have HY := Lib.hid ((HB.out.trans (hal.mono (Nat.le_of_lt hz))).trans (hb.mono (Nat.le_trans (Nat.le_of_lt hz) hal.size))); have HQ := Lib.hid hB; clear hal hb HR HB kc hB hz; wkka (first | (refine store_box HX.out (setN (oneB c)) rfl _ _ rfl rfl rfl ?_; dsimp only [Act.put])); refine bodyPost_ret (results_re rfl _ _ _ _ rfl (HX.out.set _)) rfl ?_; exact ⟨rfl, by rw [HQ.out]; exact Below.row HY.out (Nat.le_refl _) _⟩
open Go.RowKit Go.Lib
/-- a tree whose rows lie at B or behind it, none of them in the block p -/
inductive ReX (B p : Nat) (w : World) : RN → Re → Prop where
 | mk (r : RN) (kids : List Re) (rs : List RN) (hI : I64 r.k ∧ I64 r.mn ∧ I64 r.mx) (hk : kids.length ≤ 140737488351232) (hrow : RowOf reC 8 w r.v rs) (hb : rs.length = 0 ∨ ∃ b off n cap, r.v = .slice (some ⟨b, off, none⟩) n cap ∧ B ≤ b ∧ b ≠ p) (hl : rs.length = kids.length)
     (hs : ∀ (i : Nat) (r' : RN) (t : Re), rs[i]? = some r' → kids[i]? = some t → ReX B p w r' t) : ReX B p w r (.mk r.k r.s r.mn r.mx kids)
section
variable {B p : Nat} {w w' : World} {r : RN} {t : Re}
theorem ReX.one (h : ReX B p w r t) : r.v.oneCell' = true := by
 cases h with
 | mk _ kids rs hI hk hrow hb hl hs => exact hrow.one
theorem ReX.kindIs (h : ReX B p w r t) : t.kindP = r.k := by cases h; rfl
theorem RowOf.keepX {rs : List RN} {v : Value} (h : RowOf reC 8 w v rs) (hb : rs.length = 0 ∨ ∃ b off n cap, v = .slice (some ⟨b, off, none⟩) n cap ∧ B ≤ b ∧ b ≠ p) (hK : ∀ k, B ≤ k → k < w.heap.size → k ≠ p → w'.heap[k]? = w.heap[k]?) (hz : w.heap.size ≤ w'.heap.size) : RowOf reC 8 w' v rs := by
 obtain ⟨a, cap, rfl, h1, h2, h3, h4⟩ := h; refine ⟨a, cap, rfl, h1, h2, h3, ?_⟩
 rcases h4 with h4 | ⟨b, off, rfl, hlt, hc⟩
 · exact .inl h4
 · rcases hb with hb | ⟨b', off', n', cap', he, hB, hp⟩
   · exact .inl hb
   · simp only [Value.slice.injEq, Option.some.injEq, Addr.mk.injEq] at he; obtain ⟨⟨rfl, rfl, _⟩, _, _⟩ := he; exact .inr ⟨b, off, rfl, by omega, fun i hi => by rw [World.cell?_of_block (w := w) (hK b hB hlt hp)]; exact hc i hi⟩
theorem ReX.keep (h : ReX B p w r t) (hK : ∀ k, B ≤ k → k < w.heap.size → k ≠ p → w'.heap[k]? = w.heap[k]?) (hz : w.heap.size ≤ w'.heap.size) : ReX B p w' r t := by
 induction h with
 | mk r kids rs hI hk hrow hb hl hs ih => exact .mk r kids rs hI hk (hrow.keepX hb hK hz) hb hl ih
theorem ReX.keepB {C : Nat} (h : ReX B p w r t) (hb : Below C w w') (hC : w.heap.size ≤ C) : ReX B p w' r t := h.keep (fun k _ hk _ => hb.block k (by omega)) hb.size
theorem ReX.els {g : Nat} (h : ReX B p w r t) (he : Else g w w') (hg : g < B) : ReX B p w' r t := h.keep (fun k hB hk _ => he.block k hk (by omega)) he.size
theorem ReX.mono {B' : Nat} (h : ReX B p w r t) (hB : B' ≤ B) : ReX B' p w r t := by
 induction h with
 | mk r kids rs hI hk hrow hb hl hs ih => exact .mk r kids rs hI hk hrow (hb.imp id fun ⟨b, off, n, cap, e, h1, h2⟩ => ⟨b, off, n, cap, e, by omega, h2⟩) hl ih
/-- another block that no row can lie in -/
theorem ReX.keepDrop {p' : Nat} (h : ReX B p w r t) (hK : ∀ k, B ≤ k → k < w.heap.size → k ≠ p → w'.heap[k]? = w.heap[k]?) (hz : w.heap.size ≤ w'.heap.size) (hp : p' < B ∨ w.heap.size ≤ p') : ReX B p' w' r t := by
 induction h with
 | mk r kids rs hI hk hrow hb hl hs ih =>
   refine .mk r kids rs hI hk (hrow.keepX hb hK hz) ?_ hl ih
   rcases hb with hb | ⟨b, off, n, cap, e, h1, h2⟩
   · exact .inl hb
   · rcases Nat.eq_zero_or_pos rs.length with h0 | h0
     · exact .inl h0
     refine .inr ⟨b, off, n, cap, e, h1, ?_⟩; obtain ⟨a, cap', hv, _, _, _, h4⟩ := hrow
     rcases h4 with h4 | ⟨b2, off2, rfl, hlt, _⟩
     · omega
     · rw [e] at hv; simp only [Value.slice.injEq, Option.some.injEq, Addr.mk.injEq] at hv; have := hv.1.1; omega
theorem ReX.drop {p' : Nat} (h : ReX B p w r t) (hp : p' < B ∨ w.heap.size ≤ p') : ReX B p' w r t := h.keepDrop (fun _ _ _ _ => rfl) (Nat.le_refl _) hp
theorem ReAt.lift : ∀ {h h' : Nat} {r : RN} {t : Re}, h ≤ h' → ReAt w h r t → ReAt w h' r t
 | h, 0, r, t, hl, hr => by rw [Nat.le_zero.1 hl] at hr; exact hr
 | h, h' + 1, r, t, hl, hr => by
   rcases Nat.lt_or_ge h (h' + 1) with h1 | h1
   · exact (ReAt.lift (by omega) hr).up
   · rw [show h' + 1 = h by omega]; exact hr
theorem many_levels {rs : List RN} {ts : List Re} : ∀ (n : Nat), (∀ (i : Nat) r t, i < n → rs[i]? = some r → ts[i]? = some t → ∃ h, ReAt w h r t) → ∃ h, ∀ (i : Nat) r t, i < n → rs[i]? = some r → ts[i]? = some t → ReAt w h r t
 | 0, _ => ⟨0, fun i r t hi => by omega⟩
 | n + 1, hall => by
   obtain ⟨h1, H1⟩ := many_levels n fun i r t hi => hall i r t (by omega)
   cases hr : rs[n]? with
   | none => exact ⟨h1, fun i r t hi hri => by
       by_cases e : i = n
       · subst e; rw [hr] at hri; cases hri
       · exact H1 i r t (by omega) hri⟩
   | some r =>
     cases ht : ts[n]? with
     | none => exact ⟨h1, fun i r t hi hri hti => by
         by_cases e : i = n
         · subst e; rw [ht] at hti; cases hti
         · exact H1 i r t (by omega) hri hti⟩
     | some t =>
       obtain ⟨h2, H2⟩ := hall n r t (by omega) hr ht; refine ⟨max h1 h2, fun i r' t' hi hri hti => ?_⟩
       by_cases e : i = n
       · subst e; rw [hr] at hri; rw [ht] at hti; simp only [Option.some.injEq] at hri hti; subst hri hti; exact H2.lift (Nat.le_max_right _ _)
       · exact (H1 i r' t' (by omega) hri hti).lift (Nat.le_max_left _ _)
theorem ReX.at' (h : ReX B p w r t) : ∃ n, ReAt w n r t := by
 induction h with
 | mk r kids rs hI hk hrow hb hl hs ih =>
   obtain ⟨n, hn⟩ := many_levels (w := w) (rs := rs) (ts := kids) rs.length fun i r t hi hr ht => ih i r t hr ht
   exact ⟨n + 1, ⟨rfl, rfl, rfl, rfl⟩, hI, hk, rs, hrow, hl, fun i r' t hr ht => hn i r' t (List.getElem?_eq_some_iff.1 hr).1 hr ht⟩
theorem ReX.setT (B p : Nat) (w : World) (q : Nat → Bool) : ReX B p w (setN q) (setT q) :=
 .mk (setN q) [] [] ⟨by show I64 1; unfold I64; omega, by show I64 0; unfold I64; omega, by show I64 0; unfold I64; omega⟩ (Nat.zero_le _) ⟨none, 0, rfl, Nat.le_refl _, Nat.zero_le _, rfl, .inl rfl⟩ (.inl rfl) rfl fun i r t h => by simp at h
end
/-- a row of the call's own of such trees -/
def LsAt (B : Nat) (w : World) (v : Value) (l : List Re) : Prop :=
 ∃ rs : List RN, OwnR reC 8 B 33 w v rs ∧ rs.length = l.length ∧ ∀ (i : Nat) r t, rs[i]? = some r → l[i]? = some t → ∀ q, (v.ownBlock = some q ∨ q < B) → ReX B q w r t
theorem reC_oneAll {r : RN} (h : r.v.oneCell' = true) : ∀ u ∈ reC r, u.oneCell' = true := by
 intro u hu; simp only [reC, List.mem_cons, List.not_mem_nil, or_false] at hu
 rcases hu with rfl | rfl | rfl | rfl | rfl | rfl | rfl | rfl
 all_goals first | rfl | exact h
theorem info_re3 : (Tryd.prog.info? 33).map (fun i => (i.zero, i.size, i.bytes)) = some (some (.agg #[.int .i64 0, .int .u64 0, .int .u64 0, .int .u64 0, .int .u64 0, .int .i64 0, .int .i64 0, .slice none 0 0]), 8, 80) := by kernel_rfl
section
variable {B : Nat} {w w' : World} {v : Value} {l : List Re}
theorem LsAt.nil (B : Nat) (w : World) : LsAt B w (.slice none 0 0) [] := ⟨[], OwnR.nil, rfl, fun i r t h => by simp at h⟩
theorem LsAt.keep (h : LsAt B w v l) (hK : ∀ k, B ≤ k → k < w.heap.size → w'.heap[k]? = w.heap[k]?) (hz : w.heap.size ≤ w'.heap.size) : LsAt B w' v l := by
 obtain ⟨rs, h1, h2, h3⟩ := h; exact ⟨rs, h1.other fun k hk => hK k (h1.below hk).1 (h1.below hk).2, h2, fun i r t hr ht q hq => (h3 i r t hr ht q hq).keep (fun k hB hk _ => hK k hB hk) hz⟩
theorem LsAt.keepB (h : LsAt B w v l) (hb : Below w.heap.size w w') : LsAt B w' v l := h.keep (fun k _ hk => hb.block k hk) hb.size
theorem LsAt.els {g : Nat} (h : LsAt B w v l) (he : Else g w w') (hg : g < B) : LsAt B w' v l := h.keep (fun k hB hk => he.block k hk (by omega)) he.size
theorem LsAt.single {r : RN} {t : Re} (hB : B ≤ w.heap.size) (hr : ∃ p, ReX B p w r t) (hp : ∀ q, q < B → ReX B q w r t) : LsAt B (w.alloc (.cells (reC r).toArray 33)) (.slice (some ⟨w.heap.size, 0, none⟩) 1 1) [t] := by
 obtain ⟨p, hr⟩ := hr; refine ⟨[r], ⟨rfl, .inr ⟨w.heap.size, 1, (reC r).toArray, (0, 0), rfl, hB, Go.heap_alloc_new w _, fun j _ h => by simp at h, Nat.le_refl _, by unfold maxLen; omega, rfl, rfl⟩⟩, rfl, fun i r' t' hr' ht' q hq => ?_⟩; have hi : i = 0 := by have := (List.getElem?_eq_some_iff.1 hr').1; simpa using this
 subst hi; simp only [List.getElem?_cons_zero, Option.some.injEq] at hr' ht'; subst hr' ht'; have hk := (Below.refl w.heap.size w).alloc (Nat.le_refl _) (.cells (reC r).toArray 33)
 rcases hq with hq | hq
 · simp only [Value.ownBlock, Option.some.injEq] at hq; subst hq; exact (hr.drop (.inr (Nat.le_refl _))).keepB hk (Nat.le_refl _)
 · exact (hp q hq).keepB hk (Nat.le_refl _)
/-- behind an append of one tree that was made later than the row -/
theorem LsAt.snoc {rs : List RN} {r : RN} {t : Re} {v' : Value} {w0 : World} (hB0 : 0 < B) (hown : OwnR reC 8 B 33 w' v' (rs ++ [r])) (hl : rs.length = l.length) (h3 : ∀ (i : Nat) r t, rs[i]? = some r → l[i]? = some t → ∀ q, (v.ownBlock = some q ∨ q < B) → ReX B q w r t)
   (hr : ∀ q, (v.ownBlock = some q ∨ q < B) → ReX B q w r t) (hg : w0.grownBy w' v.ownBlock) (h0 : ∀ k, k < w.heap.size → w0.heap[k]? = w.heap[k]?) (hz : w.heap.size ≤ w0.heap.size) (hs : v'.ownBlock = v.ownBlock ∨ ∃ g, v'.ownBlock = some g ∧ w.heap.size ≤ g) : LsAt B w' v' (l ++ [t]) := by
 have hz' : w.heap.size ≤ w'.heap.size := Nat.le_trans hz hg.size; have keep : ∀ (r : RN) (t : Re), (∀ q, (v.ownBlock = some q ∨ q < B) → ReX B q w r t) → ∀ q, (v'.ownBlock = some q ∨ q < B) → ReX B q w' r t := by
   intro r t H q hq
   cases hv : v.ownBlock with
   | none =>
     have hh := H 0 (.inr hB0); refine hh.keepDrop (fun k _ hk _ => by rw [hg.block k (by omega) (by rw [hv]; intro e; cases e), h0 k hk]) hz' ?_
     rcases hq with hq | hq
     · rcases hs with hs | ⟨g, hs, hge⟩
       · rw [hs, hv] at hq; cases hq
       · rw [hs] at hq; exact .inr (by rw [← Option.some.inj hq]; exact hge)
     · exact .inl hq
   | some q0 =>
     have hh := H q0 (.inl hv); have hK : ∀ k, B ≤ k → k < w.heap.size → k ≠ q0 → w'.heap[k]? = w.heap[k]? := fun k _ hk hne => by rw [hg.block k (by omega) (by rw [hv]; intro e; exact hne (Option.some.inj e)), h0 k hk]
     rcases hq with hq | hq
     · rcases hs with hs | ⟨g, hs, hge⟩
       · rw [hs, hv] at hq; rw [← Option.some.inj hq]; exact hh.keep hK hz'
       · rw [hs] at hq; exact hh.keepDrop hK hz' (.inr (by rw [← Option.some.inj hq]; exact hge))
     · exact hh.keepDrop hK hz' (.inl hq)
 refine ⟨rs ++ [r], hown, by rw [List.length_append, List.length_append, hl]; rfl, fun i r' t' hr' ht' => keep r' t' ?_⟩
 by_cases hi : i < rs.length
 · rw [List.getElem?_append_left hi] at hr'; rw [List.getElem?_append_left (by omega)] at ht'; exact h3 i r' t' hr' ht'
 · have h1 := (List.getElem?_eq_some_iff.1 hr').1; rw [List.length_append, List.length_cons, List.length_nil] at h1; obtain rfl : i = rs.length := by omega
   rw [List.getElem?_append_right (Nat.le_refl _), Nat.sub_self] at hr'; rw [hl, List.getElem?_append_right (Nat.le_refl _), Nat.sub_self] at ht'; simp only [List.getElem?_cons_zero, Option.some.injEq] at hr' ht'; subst hr' ht'; exact hr
end
/-- an append of a whole row of trees -/
theorem app_res {B : Nat} {w : World} {v : Value} {l0 l1 : List RN} {ops : Array Oper} {rest : List Oper} {o : Oper} {a : Act} {Q : Exit → Act → World → Prop}
   (ho : ∀ y, y ∈ l1 → ∀ u ∈ reC y, u.oneCell' = true) (hg : o.guard = none) (s x' : Operand) (hop : o.op = Op.call { callee := Callee.builtin Builtin.append, args := #[s, x'], argTypes := #[31, 31] }) (hs : a.eval s = v) {vx : Value} (hx' : a.eval x' = vx) (hx : RowOf reC 8 w vx l1)
   (hown : OwnR reC 8 B 33 w v l0) (hB : B ≤ w.heap.size) (hn : l0.length + l1.length ≤ 100000)
   (hK : ∀ v' w', OwnR reC 8 B 33 w' v' (l0 ++ l1) → w.grownBy w' v.ownBlock → wpList Tryd.prog ops Q rest (a.put o.dst v') w') : wpList Tryd.prog ops Q (o :: rest) a w := by
 subst hx'; refine wpList_plain hg fun K hK' => ?_
 exact app_rowW 80 reC_length ho Tryd.underlying31 info_re3 rfl s x' hop hs hx hown hB (by omega) (by unfold maxLen; omega) fun v' w' h1 h2 => hK' _ _ (hK v' w' h1 h2)
open Go.RowKit Go.Lib
theorem genUw {P : Program} {md : Region.Mode} {ops : Array Oper} {C : World → Prop} {u : Nat} {Q : Exit → Act → World → Prop} {fuel : Nat} {listed : Array Bool} {a : Act} {w : World} (F : World → Prop) (hF : F w) (h : ∀ w', F w' → wpAnyU P md ops C u Q fuel listed a w') : wpAnyU P md ops C u Q fuel listed a w := h w hF
theorem escR_lt {s : List UInt8} {i a j : Nat} (h : escR s i = .ok a j) : a < 256 := by
 unfold escR at h
 split at h
 · split at h
   · simp only [PR.ok.injEq] at h; omega
   split at h
   · simp only [PR.ok.injEq] at h; omega
   split at h
   · simp only [PR.ok.injEq] at h; omega
   split at h
   · cases hx : hexR s (i + 1) with
     | ok b k =>
       rw [hx] at h; simp only [PR.bind] at h
       cases hy : hexR s k with
       | ok c l =>
         rw [hy] at h; simp only [PR.ok.injEq] at h; have := hexR_lt hx; have := hexR_lt hy; omega
       | bad e l => rw [hy] at h; cases h
       | out => rw [hy] at h; cases h
     | bad e k => rw [hx] at h; cases h
     | out => rw [hx] at h; cases h
   split at h
   · simp only [PR.ok.injEq] at h; have := bt_lt s i; omega
   · cases h
 · cases h
theorem pntR_lt {s : List UInt8} {i a j : Nat} (h : pntR s i = .ok a j) : a < 256 := by
 unfold pntR at h
 split at h
 · exact escR_lt h
 split at h
 · simp only [PR.ok.injEq] at h; have := bt_lt s i; omega
 · cases h
/-- what a step that makes a tree tells -/
def TPost (g : Nat) (S : ByteArray) (d : Nat) (w : World) (x : PR Re) (e : Ending) (w' : World) : Prop :=
 match x with
 | .ok t j => (∃ r, e = .returned (reV r) ∧ ReX w.heap.size g w' r t) ∧ PsAt w' g S j d ∧ Else g w w'
 | .bad e0 j => e = stopE e0 j ∧ Else g w w'
 | .out => False
theorem TPost.okI {g : Nat} {S : ByteArray} {d : Nat} {w : World} {x : PR Re} {e : Ending} {w' : World} {t : Re} {j : Nat} (hx : x = .ok t j) (h : (∃ r, e = .returned (reV r) ∧ ReX w.heap.size g w' r t) ∧ PsAt w' g S j d ∧ Else g w w') : TPost g S d w x e w' := by subst hx; exact h
theorem TPost.badI {g : Nat} {S : ByteArray} {d : Nat} {w : World} {x : PR Re} {e : Ending} {w' : World} {a j : Nat} (hx : x = .bad a j) (h : e = stopE a j ∧ Else g w w') : TPost g S d w x e w' := by subst hx; exact h
/-- take, whichever it is -/
theorem ps_take (g : Nat) (S : ByteArray) (i d c : Nat) (hi : i ≤ 512) (w : World) (h : PsAt w g S i d) :
   Calls Tryd.prog 71 #[.pointer (some ⟨g, 0, none⟩), .int .u8 (c : Int)] w fun e w' => e = .returned (.bool (decide (isC S.data.toList i c))) ∧ PsAt w' g S (if isC S.data.toList i c then i + 1 else i) d ∧ Else g w w' := by
 by_cases hc : isC S.data.toList i c
 · rw [decide_eq_true hc, if_pos hc]; exact ps_take_y g S i d c hi w h hc
 · rw [decide_eq_false hc, if_neg hc]; exact (ps_take_n g S i d c w h hc).mono fun _ _ ⟨he, hb⟩ => ⟨he, h.keep hb, Else.of_below hb⟩
/-- the boxes of 'class' -/
structure CX (w : World) (Z g b4 : Nat) (S : ByteArray) (d : Nat) (a : Nat → Bool) (i : Nat) (W : World) : Prop where
 s4 : SetAt W b4 a
 bx : ReBox W Z reZ
 ps : PsAt W g S i d
 els : Else g w W
 lt : g < Z ∧ Z < b4
 sz : w.heap.size = Z
section
variable {w W W' : World} {Z g b4 : Nat} {S : ByteArray} {d i : Nat} {a : Nat → Bool}
theorem CX.keep (h : CX w Z g b4 S d a i W) (hb : Below W.heap.size W W') : CX w Z g b4 S d a i W' := ⟨h.s4.keep hb, h.bx.keep hb, h.ps.keep hb, h.els.trans (Else.of_below hb), h.lt, h.sz⟩
theorem CX.go {j : Nat} (h : CX w Z g b4 S d a i W) (hp : PsAt W' g S j d) (he : Else g W W') : CX w Z g b4 S d a j W' :=
 ⟨he.row h.s4 (by have := h.lt; omega), he.row h.bx (by have := h.lt; omega), hp, h.els.trans he, h.lt, h.sz⟩
theorem CX.put (h : CX w Z g b4 S d a i W) (q : Nat → Bool) : CX w Z g b4 S d q i (W.setRow b4 (sc q)) :=
 ⟨h.s4.set, h.bx.other (by have := h.lt; omega), h.ps.row (by have := h.lt; omega), h.els.rowNew (by have := h.lt; have := h.sz; omega) _, h.lt, h.sz⟩
theorem CX.setI (h : CX w Z g b4 S d a i W) (j : Nat) : CX w Z g b4 S d a j (W.setCell ⟨g, 1, none⟩ (.int .i64 (j : Int))) := h.go (h.ps.set1 j) ((Else.refl g W).setCell _ _)
end
set_option maxRecDepth 100000 in
set_option maxHeartbeats 8000000 in
theorem ps_class (g : Nat) (S : ByteArray) (f i d : Nat) (hS : S.size ≤ 512) (hi : i ≤ S.size) (hf : clsR S.data.toList f i ≠ .out) (w : World) (h : PsAt w g S i d) :
   Calls Tryd.prog 79 #[.pointer (some ⟨g, 0, none⟩)] w (TPost g S d w (clsR S.data.toList f i)) := by
 obtain ⟨nt, hnt⟩ : ∃ nt, decide (isC S.data.toList i 94) = nt := ⟨_, rfl⟩; obtain ⟨i0, hi0⟩ : ∃ i0, (if isC S.data.toList i 94 then i + 1 else i) = i0 := ⟨_, rfl⟩; have hi0b : i0 ≤ S.size := by
   rw [← hi0]; split
   · rename_i hc; have := hc.1; rw [ba_len] at this; omega
   · exact hi
 obtain ⟨X0, hX0⟩ : ∃ X0, clsL S.data.toList f (fun _ => false) true i0 = X0 := ⟨_, rfl⟩; have hX : clsR S.data.toList f i = X0.bind fun a j => .ok (setT (if nt = true then notB a else a)) (j + 1) := by
   unfold clsR; rw [← hX0, ← hi0, ← hnt]
   by_cases hc : isC S.data.toList i 94
   · rw [if_pos hc, if_pos hc, decide_eq_true hc]; rfl
   · rw [if_neg hc, if_neg hc, decide_eq_false hc]; rfl
 have hX0n : X0 ≠ .out := fun e => hf (by rw [hX, e]; rfl)
 rw [hX]; have hcall := fun (W : World) (hp : PsAt W g S i d) => ps_take g S i d 94 (by omega) W hp
 simp only [hnt, hi0] at hcall; have HH := Lib.hid h; have HA : Hid (ReBox (w.alloc (.cells #[.int .i64 0, .int .u64 0, .int .u64 0, .int .u64 0, .int .u64 0, .int .i64 0, .int .i64 0, .slice none 0 0] 33)) w.heap.size reZ ∧ Below w.heap.size w (w.alloc (.cells #[.int .i64 0, .int .u64 0, .int .u64 0, .int .u64 0, .int .u64 0, .int .i64 0, .int .i64 0, .slice none 0 0] 33)) ∧ PsAt (w.alloc (.cells #[.int .i64 0, .int .u64 0, .int .u64 0, .int .u64 0, .int .u64 0, .int .i64 0, .int .i64 0, .slice none 0 0] 33)) g S i d ∧ g < w.heap.size) :=
   Lib.hid ⟨ReBox.zero w, (Below.refl _ _).alloc (Nat.le_refl _) _, h.keep ((Below.refl _ _).alloc (Nat.le_refl _) _), h.lt⟩
 have HX0 := Lib.hid hX0; have HXn := Lib.hid hX0n; have HS := Lib.hid hS; clear h hX hnt hi0 hX0 hX0n hf hi hS; go_enter Tryd.func79, Tryd.ntmps79
 repeat' (go_not_at_region 1; first | go_values | go_skip | go_guarded | go_step | go_upon)
 generalize hZ : w.heap.size = Z at HA ⊢; refine gen_wd (fun W => ReBox W Z reZ ∧ Below Z w W ∧ PsAt W g S i d ∧ g < Z) HA.out ?_; clear HA; rintro w1 ⟨hr, hb, hp, hgz⟩; have HR := Lib.hid hr; have HE := Lib.hid (Else.of_below (g := g) (w := w) (w' := w1) (by rw [hZ]; exact hb)); have hc := hcall w1 hp; have HZ := Lib.hid (And.intro hgz hZ); clear hr hb hp hgz hZ hcall HH; wkk; refine Calls.mono (hc) ?_; rintro _ w2 ⟨rfl, hp, he⟩; dsimp only
 have HX : Hid (CX w Z g w2.heap.size S d (fun _ => false) i0 (w2.alloc (.cells #[.int .u64 0, .int .u64 0, .int .u64 0, .int .u64 0] 30))) := Lib.hid (by
   have hk := (Below.refl w2.heap.size w2).alloc (Nat.le_refl _) (.cells #[.int .u64 0, .int .u64 0, .int .u64 0, .int .u64 0] 30); have hbx : ReBox w2 Z reZ := he.row HR.out (by have := HZ.out; omega)
   exact ⟨SetAt.zero w2, hbx.keep hk, hp.keep hk, (HE.out.trans he).trans (Else.of_below hk), ⟨HZ.out.1, hbx.lt⟩, HZ.out.2⟩)
 clear hp he hc HR HE HZ
 repeat' (go_not_at_region 3; first | go_values | go_skip | go_guarded | go_step | go_upon)
 generalize w2.heap.size = b4 at HX ⊢; refine gen_wd (fun W => CX w Z g b4 S d (fun _ => false) i0 W) HX.out ?_; clear HX; rintro w3 hx; have HX := Lib.hid hx; clear hx; wkk
 go_loopg [5] f (fun gk s5 wr => ∃ (a : Nat → Bool) (first : Bool) (i' : Nat), s5 = .bool first ∧ i' ≤ S.size ∧ Hid (clsL S.data.toList gk a first i' = X0) ∧ Hid (CX w Z g b4 S d a i' wr))
 case atStart => exact ⟨_, true, i0, rfl, hi0b, HX0, HX⟩
 case round =>
   clear HX0 HX hi0b; obtain ⟨a, first, i', rfl, hi', HC, HX⟩ := hrel
   cases gk with
   | zero => exact absurd (by rw [← HC.out, clsL]) HXn.out
   | succ gk =>
     have hC := HC.out; rw [clsL] at hC; clear HC
     by_cases hA : first = false ∧ isC S.data.toList i' 93
     · rw [if_pos hA] at hC; obtain ⟨rfl, h93⟩ := hA; have HC := Lib.hid hC.symm; have HI := Lib.hid h93; have hcall := ps_is_y g S i' d 93 wr HX.out.ps h93; clear hC h93; wkk; refine Calls.mono (hcall) ?_; rintro _ w4 ⟨rfl, hb⟩; dsimp only; have HX := Lib.hid (HX.out.keep hb); clear hb hcall; wkk; have hm := ps_must_y g S i' d 93 (by have := HS.out; omega) w4 HX.out.ps HI.out; refine Calls.mono (hm) ?_; rintro _ w5 ⟨rfl, hp, he⟩; dsimp only; have HX := Lib.hid (HX.out.go hp he); clear hp he hm
       cases nt with
       | true =>
         have HL := Lib.hid HX.out.s4; wkka (first | (with_reducible refine load_set1 HL.out _ rfl rfl ?_; dsimp only [Act.put])); refine Calls.mono ((k_not _ _)) ?_; rintro _ w6 ⟨rfl, hb6⟩; dsimp only; have HX := Lib.hid (HX.out.keep hb6); clear hb6 HL; have H4 := Lib.hid HX.out.s4; have HX := Lib.hid (HX.out.put (notB a)); have HL := Lib.hid HX.out.s4; have HM := Lib.hid HX.out.bx
         wkka (first | (with_reducible refine store_set1 H4.out _ _ _ rfl rfl rfl ?_; dsimp only [Act.put]) | (with_reducible refine load_set1 HL.out _ rfl rfl ?_; dsimp only [Act.put]) | (refine store_box HM.out (setN (notB a)) rfl _ _ rfl rfl rfl ?_; dsimp only [Act.put])); refine bodyPost_ret (results_re rfl _ _ _ _ rfl (HM.out.set _)) rfl ?_; exact TPost.okI (by rw [HC.out]; rfl) ⟨⟨_, rfl, ReX.setT _ _ _ _⟩, HX.out.ps.row (by have := HX.out.lt; omega), HX.out.els.rowNew (by have := HX.out.sz; omega) _⟩
       | false =>
         have HL := Lib.hid HX.out.s4; have HM := Lib.hid HX.out.bx; wkka (first | (with_reducible refine load_set1 HL.out _ rfl rfl ?_; dsimp only [Act.put]) | (refine store_box HM.out (setN a) rfl _ _ rfl rfl rfl ?_; dsimp only [Act.put])); refine bodyPost_ret (results_re rfl _ _ _ _ rfl (HM.out.set _)) rfl ?_; exact TPost.okI (by rw [HC.out]; rfl) ⟨⟨_, rfl, ReX.setT _ _ _ _⟩, HX.out.ps.row (by have := HX.out.lt; omega), HX.out.els.rowNew (by have := HX.out.sz; omega) _⟩
     · rw [if_neg hA] at hC
       cases first with
       | true =>
         wkk
         by_cases h92 : isC S.data.toList i' 92
         · rw [if_pos h92] at hC; have hcall := ps_is_y g S i' d 92 wr HX.out.ps h92; have hi1 : i' + 1 ≤ S.size := by have := h92.1; rw [ba_len] at this; omega
           have hS512 := HS.out; have hw : IntKind.i64.wrap ((i' : Int) + 1) = ((i' + 1 : Nat) : Int) := by rw [wi64 (by unfold I64; omega)]; omega
           have hw2 : IntKind.i64.wrap (((i' + 1 : Nat) : Int) - 1) = (i' : Int) := by rw [wi64 (by unfold I64; omega)]; omega
           have Hlt := Lib.hid (fun (k : Nat → Bool) (h : kndR S.data.toList (i' + 1) = some k) => kndR_lt h); have HI2 : Hid (i' + 1 + 1 = i' + 2) := Lib.hid rfl; obtain ⟨i1, hi1e⟩ : ∃ i1, i' + 1 = i1 := ⟨_, rfl⟩; rw [hi1e] at hw hw2 hC hi1 HI2 Hlt; have hi1512 : i1 ≤ 512 := by omega
           clear h92 hA hi1e hS512; refine Calls.mono (hcall) ?_; rintro _ wv ⟨rfl, hb⟩; dsimp only; have HX := Lib.hid (HX.out.keep hb); have c1 := HX.out.ps.c1; have f1 := HX.out.ps.free 1; clear hb hcall; have HY := Lib.hid (HX.out.setI i1); wkk; have hk := ps_kind g S i1 d hi1512 _ HY.out.ps; clear c1 f1 HX
           cases hK : kndR S.data.toList i1 with
           | some p =>
             rw [hK] at hk hC; have HI3 := Lib.hid (Hlt.out p hK); dsimp only at hC; have HC := Lib.hid hC; clear hK hC hw2; refine Calls.mono (hk) ?_; rintro _ wk ⟨rfl, hpk, hek⟩; dsimp only; have HX := Lib.hid (HY.out.go hpk hek); clear hk hpk hek; have HL4 := Lib.hid (HX.out.keep ((Below.refl _ _).alloc (Nat.le_refl _) (.cells (sc p) 30))).s4; have HL6 : Hid (SetAt (wk.alloc (.cells (sc p) 30)) wk.heap.size p) := Lib.hid (Go.heap_alloc_new _ _); have HXb := Lib.hid (HX.out.keep ((Below.refl _ _).alloc (Nat.le_refl _) (.cells (sc p) 30)))
             wkka (first | (with_reducible refine load_set1 HL4.out _ rfl rfl ?_; dsimp only [Act.put]) | (with_reducible refine load_set1 HL6.out _ rfl rfl ?_; dsimp only [Act.put])); refine Calls.mono ((k_join _ _ _)) ?_; rintro _ wm ⟨rfl, hb⟩; dsimp only; have HX := Lib.hid (HXb.out.keep hb); clear hb HXb HL4 HL6; wkka (first | (with_reducible refine store_set1 HX.out.s4 _ _ _ rfl rfl rfl ?_; dsimp only [Act.put])); go_roundg gk
             case rel => exact ⟨_, false, i1 + 1, rfl, by have := HI3.out; rw [ba_len] at this; omega, by rw [HI2.out]; exact HC, Lib.hid (HX.out.put (orB a p))⟩
             case measure => omega
           | none =>
             rw [hK] at hk hC; dsimp only at hC; clear hK; refine Calls.mono (hk) ?_; rintro _ wk ⟨rfl, hpk, hek⟩; dsimp only; have HX := Lib.hid (HY.out.go hpk hek); have HXb := Lib.hid (HX.out.keep ((Below.refl _ _).alloc (Nat.le_refl _) (.cells (sc fun _ => false) 30))); clear hk hpk hek HY HX; have c1 := HXb.out.ps.c1; have f1 := HXb.out.ps.free 1; have HX := Lib.hid (HXb.out.setI i'); wkk; clear c1 f1 HXb hw hw2 hi1 hi1512 Hlt HI2; have hp := ps_point g S i' d HS.out hi' _ HX.out.ps
             cases hP : pntR S.data.toList i' with
             | bad e0 j =>
               rw [hP] at hp hC; have HC := Lib.hid hC.symm; clear hC; refine Calls.mono hp ?_; rintro _ wy ⟨rfl, he⟩; exact ⟨rfl, TPost.badI (by rw [HC.out]; rfl) ⟨rfl, HX.out.els.trans he⟩⟩
             | out => exact absurd hP pntR_out
             | ok lo j =>
               have hlo := pntR_lt hP; have hj : j ≤ S.size := by have := ((pntR_in (s := S.data.toList) (i := i') (by rw [ba_len]; exact hi')).okB hP).2; rw [ba_len] at this; exact this
               rw [hP] at hp hC; simp only [PR.bind] at hC; clear hP; refine Calls.mono (hp) ?_; rintro _ wy ⟨rfl, hpy, hey⟩; dsimp only; have HX := Lib.hid (HX.out.go hpy hey); clear hp hpy hey
               by_cases h45 : isC S.data.toList j 45
               · rw [if_pos h45] at hC; have ht := ps_take_y g S j d 45 (by have := HS.out; omega) wy HX.out.ps h45; have hj1 : j + 1 ≤ S.size := by have := h45.1; rw [ba_len] at this; omega
                 clear h45 hj; obtain ⟨j1, hj1e⟩ : ∃ j1, j + 1 = j1 := ⟨_, rfl⟩; rw [hj1e] at ht hC hj1; have Hj1e := Lib.hid hj1e; clear hj1e; wkk; refine Calls.mono (ht) ?_; rintro _ wz ⟨rfl, hpz, hez⟩; dsimp only; have HX := Lib.hid (HX.out.go hpz hez); have c1 := HX.out.ps.c1; clear ht hpz hez; wkk; have hp := ps_point g S j1 d HS.out hj1 wz HX.out.ps
                 cases hP : pntR S.data.toList j1 with
                 | bad e0 k =>
                   rw [hP] at hp hC; have HC := Lib.hid hC.symm; clear hC; refine Calls.mono hp ?_; rintro _ wq ⟨rfl, he⟩; exact ⟨rfl, TPost.badI (by rw [HC.out]; rfl) ⟨rfl, HX.out.els.trans he⟩⟩
                 | out => exact absurd hP pntR_out
                 | ok hi k =>
                   have hhi := pntR_lt hP; have hk : k ≤ S.size := by have := ((pntR_in (s := S.data.toList) (i := j1) (by rw [ba_len]; exact hj1)).okB hP).2; rw [ba_len] at this; exact this
                   rw [hP] at hp hC; dsimp only at hC; clear hP c1; refine Calls.mono (hp) ?_; rintro _ wq ⟨rfl, hpq, heq⟩; dsimp only; have HX := Lib.hid (HX.out.go hpq heq); clear hp hpq heq
                   by_cases hl : hi < lo
                   · rw [if_pos hl] at hC; have HC := Lib.hid hC.symm; have hl' : (hi : Int) < (lo : Int) := by omega
                     clear hC hl; wkk; exact ⟨rfl, TPost.badI (by rw [HC.out]; rfl) ⟨rfl, HX.out.els⟩⟩
                   · rw [if_neg hl] at hC; have HC := Lib.hid hC; have hl' : ¬ (hi : Int) < (lo : Int) := by omega
                     clear hC hl hj1; wkk; obtain ⟨C, hC⟩ : ∃ C : World → Prop, C = fun W => SetAt W b4 a := ⟨_, rfl⟩
                     have Hmk : Hid (∀ W, SetAt W b4 a → C W) := Lib.hid (fun W h => by rw [hC]; exact h); have hC' : ∀ W, C W → SetAt W b4 a := fun W h => by rw [hC] at h; exact h
                     have q0 : ∀ nq : GW C, nq.1.cell? ⟨b4, 0, none⟩ = some (.int .u64 (W a 0 : Nat)) := fun nq => (hC' _ nq.2).c0
                     have q1 : ∀ nq : GW C, nq.1.cell? ⟨b4, 1, none⟩ = some (.int .u64 (W a 1 : Nat)) := fun nq => (hC' _ nq.2).c1
                     have q2 : ∀ nq : GW C, nq.1.cell? ⟨b4, 2, none⟩ = some (.int .u64 (W a 2 : Nat)) := fun nq => (hC' _ nq.2).c2
                     have q3 : ∀ nq : GW C, nq.1.cell? ⟨b4, 3, none⟩ = some (.int .u64 (W a 3 : Nat)) := fun nq => (hC' _ nq.2).c3
                     clear hC hC'; refine wp_region_anyU (by kernel_rfl) C 5 ?_; refine tkU 0 rfl ?_; refine tkU 1 rfl ?_; refine tkU 2 rfl ?_; clear q0 q1 q2 q3; refine genUw (fun W => CX w Z g b4 S d a k W) (HX.out.keep (Below.refl _ _).drew) ?_; clear HX; intro W0 hx0; have hr := set_Range lo hi hlo hhi; refine wpAnyU_ready (CG.of (Hmk.out _ hx0.s4)) (rs := [3]) (by kernel_rfl) (by simp) ?_; refine (AllReadyU.cons rfl (fun K hK => ?_) AllReadyU.nil); go_simp; refine Calls.mono ((hr W0)) ?_; rintro _ W1 ⟨rfl, hb⟩; dsimp only; refine hK _ _ ?_; clear hK K
                     have hx1 := hx0.keep hb; clear hb hx0 hr; refine wpAnyU_ready (CG.of (Hmk.out _ hx1.s4)) (rs := [4]) (by kernel_rfl) (by simp) ?_; refine (AllReadyU.cons rfl (fun K hK => ?_) AllReadyU.nil); go_simp; refine Calls.mono ((k_join _ _ W1)) ?_; rintro _ W2 ⟨rfl, hb⟩; dsimp only; refine hK _ _ ?_; clear hK K; have hx2 := hx1.keep hb; clear hb hx1; refine wpAnyU_ready (CG.of (Hmk.out _ hx2.s4)) (rs := [5]) (by kernel_rfl) (by simp) ?_; refine (AllReadyU.cons rfl (fun K hK => ?_) AllReadyU.nil)
                     refine step_of rfl (store_set1 hx2.s4 (orB a (rngB lo hi)) _ _ rfl rfl rfl ?_); refine hK _ _ ?_; clear hK K; refine wpAnyU_done (by kernel_rfl) (by kernel_rfl) (by go_simp <;> with_reducible rfl) ?_; have HX := Lib.hid (hx2.put (orB a (rngB lo hi))); clear hx2 Hmk; wkk; go_roundg gk
                     case rel => exact ⟨_, false, k, rfl, hk, HC, HX⟩
                     case measure => omega
               · rw [if_neg h45] at hC; have HC := Lib.hid hC; have ht := ps_take_n g S j d 45 wy HX.out.ps h45; clear hC h45; wkk; refine Calls.mono (ht) ?_; rintro _ wz ⟨rfl, hb⟩; dsimp only; have HX := Lib.hid (HX.out.keep hb); clear ht hb; wkk; obtain ⟨C, hC⟩ : ∃ C : World → Prop, C = fun W => SetAt W b4 a := ⟨_, rfl⟩
                 have Hmk : Hid (∀ W, SetAt W b4 a → C W) := Lib.hid (fun W h => by rw [hC]; exact h); have hC' : ∀ W, C W → SetAt W b4 a := fun W h => by rw [hC] at h; exact h
                 have q0 : ∀ nq : GW C, nq.1.cell? ⟨b4, 0, none⟩ = some (.int .u64 (W a 0 : Nat)) := fun nq => (hC' _ nq.2).c0
                 have q1 : ∀ nq : GW C, nq.1.cell? ⟨b4, 1, none⟩ = some (.int .u64 (W a 1 : Nat)) := fun nq => (hC' _ nq.2).c1
                 have q2 : ∀ nq : GW C, nq.1.cell? ⟨b4, 2, none⟩ = some (.int .u64 (W a 2 : Nat)) := fun nq => (hC' _ nq.2).c2
                 have q3 : ∀ nq : GW C, nq.1.cell? ⟨b4, 3, none⟩ = some (.int .u64 (W a 3 : Nat)) := fun nq => (hC' _ nq.2).c3
                 clear hC hC'; refine wp_region_anyU (by kernel_rfl) C 5 ?_; refine tkU 0 rfl ?_; refine tkU 1 rfl ?_; refine tkU 2 rfl ?_; clear q0 q1 q2 q3; refine genUw (fun W => CX w Z g b4 S d a j W) (HX.out.keep (Below.refl _ _).drew) ?_; clear HX; intro W0 hx0; have hr := set_Range lo lo hlo hlo; refine wpAnyU_ready (CG.of (Hmk.out _ hx0.s4)) (rs := [3]) (by kernel_rfl) (by simp) ?_; refine (AllReadyU.cons rfl (fun K hK => ?_) AllReadyU.nil); go_simp; refine Calls.mono ((hr W0)) ?_; rintro _ W1 ⟨rfl, hb⟩; dsimp only; refine hK _ _ ?_; clear hK K
                 have hx1 := hx0.keep hb; clear hb hx0 hr; refine wpAnyU_ready (CG.of (Hmk.out _ hx1.s4)) (rs := [4]) (by kernel_rfl) (by simp) ?_; refine (AllReadyU.cons rfl (fun K hK => ?_) AllReadyU.nil); go_simp; refine Calls.mono ((k_join _ _ W1)) ?_; rintro _ W2 ⟨rfl, hb⟩; dsimp only; refine hK _ _ ?_; clear hK K; have hx2 := hx1.keep hb; clear hb hx1; refine wpAnyU_ready (CG.of (Hmk.out _ hx2.s4)) (rs := [5]) (by kernel_rfl) (by simp) ?_; refine (AllReadyU.cons rfl (fun K hK => ?_) AllReadyU.nil)
                 refine step_of rfl (store_set1 hx2.s4 (orB a (rngB lo lo)) _ _ rfl rfl rfl ?_); refine hK _ _ ?_; clear hK K; refine wpAnyU_done (by kernel_rfl) (by kernel_rfl) (by go_simp <;> with_reducible rfl) ?_; have HX := Lib.hid (hx2.put (orB a (rngB lo lo))); clear hx2 Hmk; wkk; go_roundg gk
                 case rel => exact ⟨_, false, j, rfl, hj, HC, HX⟩
                 case measure => omega
         · rw [if_neg h92] at hC; have hcall := ps_is_n g S i' d 92 wr HX.out.ps h92; clear h92 hA; refine Calls.mono (hcall) ?_; rintro _ wv ⟨rfl, hb⟩; dsimp only; have HX := Lib.hid (HX.out.keep hb); clear hb hcall; dsimp only at hC; wkk; have hp := ps_point g S i' d HS.out hi' wv HX.out.ps
           cases hP : pntR S.data.toList i' with
           | bad e0 j =>
             rw [hP] at hp hC; have HC := Lib.hid hC.symm; clear hC; refine Calls.mono hp ?_; rintro _ wy ⟨rfl, he⟩; exact ⟨rfl, TPost.badI (by rw [HC.out]; rfl) ⟨rfl, HX.out.els.trans he⟩⟩
           | out => exact absurd hP pntR_out
           | ok lo j =>
             have hlo := pntR_lt hP; have hj : j ≤ S.size := by have := ((pntR_in (s := S.data.toList) (i := i') (by rw [ba_len]; exact hi')).okB hP).2; rw [ba_len] at this; exact this
             rw [hP] at hp hC; simp only [PR.bind] at hC; clear hP; refine Calls.mono (hp) ?_; rintro _ wy ⟨rfl, hpy, hey⟩; dsimp only; have HX := Lib.hid (HX.out.go hpy hey); clear hp hpy hey
             by_cases h45 : isC S.data.toList j 45
             · rw [if_pos h45] at hC; have ht := ps_take_y g S j d 45 (by have := HS.out; omega) wy HX.out.ps h45; have hj1 : j + 1 ≤ S.size := by have := h45.1; rw [ba_len] at this; omega
               clear h45 hj; obtain ⟨j1, hj1e⟩ : ∃ j1, j + 1 = j1 := ⟨_, rfl⟩; rw [hj1e] at ht hC hj1; have Hj1e := Lib.hid hj1e; clear hj1e; wkk; refine Calls.mono (ht) ?_; rintro _ wz ⟨rfl, hpz, hez⟩; dsimp only; have HX := Lib.hid (HX.out.go hpz hez); have c1 := HX.out.ps.c1; clear ht hpz hez; wkk; have hp := ps_point g S j1 d HS.out hj1 wz HX.out.ps
               cases hP : pntR S.data.toList j1 with
               | bad e0 k =>
                 rw [hP] at hp hC; have HC := Lib.hid hC.symm; clear hC; refine Calls.mono hp ?_; rintro _ wq ⟨rfl, he⟩; exact ⟨rfl, TPost.badI (by rw [HC.out]; rfl) ⟨rfl, HX.out.els.trans he⟩⟩
               | out => exact absurd hP pntR_out
               | ok hi k =>
                 have hhi := pntR_lt hP; have hk : k ≤ S.size := by have := ((pntR_in (s := S.data.toList) (i := j1) (by rw [ba_len]; exact hj1)).okB hP).2; rw [ba_len] at this; exact this
                 rw [hP] at hp hC; dsimp only at hC; clear hP c1; refine Calls.mono (hp) ?_; rintro _ wq ⟨rfl, hpq, heq⟩; dsimp only; have HX := Lib.hid (HX.out.go hpq heq); clear hp hpq heq
                 by_cases hl : hi < lo
                 · rw [if_pos hl] at hC; have HC := Lib.hid hC.symm; have hl' : (hi : Int) < (lo : Int) := by omega
                   clear hC hl; wkk; exact ⟨rfl, TPost.badI (by rw [HC.out]; rfl) ⟨rfl, HX.out.els⟩⟩
                 · rw [if_neg hl] at hC; have HC := Lib.hid hC; have hl' : ¬ (hi : Int) < (lo : Int) := by omega
                   clear hC hl hj1; wkk; obtain ⟨C, hC⟩ : ∃ C : World → Prop, C = fun W => SetAt W b4 a := ⟨_, rfl⟩
                   have Hmk : Hid (∀ W, SetAt W b4 a → C W) := Lib.hid (fun W h => by rw [hC]; exact h); have hC' : ∀ W, C W → SetAt W b4 a := fun W h => by rw [hC] at h; exact h
                   have q0 : ∀ nq : GW C, nq.1.cell? ⟨b4, 0, none⟩ = some (.int .u64 (W a 0 : Nat)) := fun nq => (hC' _ nq.2).c0
                   have q1 : ∀ nq : GW C, nq.1.cell? ⟨b4, 1, none⟩ = some (.int .u64 (W a 1 : Nat)) := fun nq => (hC' _ nq.2).c1
                   have q2 : ∀ nq : GW C, nq.1.cell? ⟨b4, 2, none⟩ = some (.int .u64 (W a 2 : Nat)) := fun nq => (hC' _ nq.2).c2
                   have q3 : ∀ nq : GW C, nq.1.cell? ⟨b4, 3, none⟩ = some (.int .u64 (W a 3 : Nat)) := fun nq => (hC' _ nq.2).c3
                   clear hC hC'; refine wp_region_anyU (by kernel_rfl) C 5 ?_; refine tkU 0 rfl ?_; refine tkU 1 rfl ?_; refine tkU 2 rfl ?_; clear q0 q1 q2 q3; refine genUw (fun W => CX w Z g b4 S d a k W) (HX.out.keep (Below.refl _ _).drew) ?_; clear HX; intro W0 hx0; have hr := set_Range lo hi hlo hhi; refine wpAnyU_ready (CG.of (Hmk.out _ hx0.s4)) (rs := [3]) (by kernel_rfl) (by simp) ?_; refine (AllReadyU.cons rfl (fun K hK => ?_) AllReadyU.nil); go_simp; refine Calls.mono ((hr W0)) ?_; rintro _ W1 ⟨rfl, hb⟩; dsimp only; refine hK _ _ ?_; clear hK K
                   have hx1 := hx0.keep hb; clear hb hx0 hr; refine wpAnyU_ready (CG.of (Hmk.out _ hx1.s4)) (rs := [4]) (by kernel_rfl) (by simp) ?_; refine (AllReadyU.cons rfl (fun K hK => ?_) AllReadyU.nil); go_simp; refine Calls.mono ((k_join _ _ W1)) ?_; rintro _ W2 ⟨rfl, hb⟩; dsimp only; refine hK _ _ ?_; clear hK K; have hx2 := hx1.keep hb; clear hb hx1; refine wpAnyU_ready (CG.of (Hmk.out _ hx2.s4)) (rs := [5]) (by kernel_rfl) (by simp) ?_; refine (AllReadyU.cons rfl (fun K hK => ?_) AllReadyU.nil)
                   refine step_of rfl (store_set1 hx2.s4 (orB a (rngB lo hi)) _ _ rfl rfl rfl ?_); refine hK _ _ ?_; clear hK K; refine wpAnyU_done (by kernel_rfl) (by kernel_rfl) (by go_simp <;> with_reducible rfl) ?_; have HX := Lib.hid (hx2.put (orB a (rngB lo hi))); clear hx2 Hmk; wkk; go_roundg gk
                   case rel => exact ⟨_, false, k, rfl, hk, HC, HX⟩
                   case measure => omega
             · rw [if_neg h45] at hC; have HC := Lib.hid hC; have ht := ps_take_n g S j d 45 wy HX.out.ps h45; clear hC h45; wkk; refine Calls.mono (ht) ?_; rintro _ wz ⟨rfl, hb⟩; dsimp only; have HX := Lib.hid (HX.out.keep hb); clear ht hb; wkk; obtain ⟨C, hC⟩ : ∃ C : World → Prop, C = fun W => SetAt W b4 a := ⟨_, rfl⟩
               have Hmk : Hid (∀ W, SetAt W b4 a → C W) := Lib.hid (fun W h => by rw [hC]; exact h); have hC' : ∀ W, C W → SetAt W b4 a := fun W h => by rw [hC] at h; exact h
               have q0 : ∀ nq : GW C, nq.1.cell? ⟨b4, 0, none⟩ = some (.int .u64 (W a 0 : Nat)) := fun nq => (hC' _ nq.2).c0
               have q1 : ∀ nq : GW C, nq.1.cell? ⟨b4, 1, none⟩ = some (.int .u64 (W a 1 : Nat)) := fun nq => (hC' _ nq.2).c1
               have q2 : ∀ nq : GW C, nq.1.cell? ⟨b4, 2, none⟩ = some (.int .u64 (W a 2 : Nat)) := fun nq => (hC' _ nq.2).c2
               have q3 : ∀ nq : GW C, nq.1.cell? ⟨b4, 3, none⟩ = some (.int .u64 (W a 3 : Nat)) := fun nq => (hC' _ nq.2).c3
               clear hC hC'; refine wp_region_anyU (by kernel_rfl) C 5 ?_; refine tkU 0 rfl ?_; refine tkU 1 rfl ?_; refine tkU 2 rfl ?_; clear q0 q1 q2 q3; refine genUw (fun W => CX w Z g b4 S d a j W) (HX.out.keep (Below.refl _ _).drew) ?_; clear HX; intro W0 hx0; have hr := set_Range lo lo hlo hlo; refine wpAnyU_ready (CG.of (Hmk.out _ hx0.s4)) (rs := [3]) (by kernel_rfl) (by simp) ?_; refine (AllReadyU.cons rfl (fun K hK => ?_) AllReadyU.nil); go_simp; refine Calls.mono ((hr W0)) ?_; rintro _ W1 ⟨rfl, hb⟩; dsimp only; refine hK _ _ ?_; clear hK K; have hx1 := hx0.keep hb
               clear hb hx0 hr; refine wpAnyU_ready (CG.of (Hmk.out _ hx1.s4)) (rs := [4]) (by kernel_rfl) (by simp) ?_; refine (AllReadyU.cons rfl (fun K hK => ?_) AllReadyU.nil); go_simp; refine Calls.mono ((k_join _ _ W1)) ?_; rintro _ W2 ⟨rfl, hb⟩; dsimp only; refine hK _ _ ?_; clear hK K; have hx2 := hx1.keep hb; clear hb hx1; refine wpAnyU_ready (CG.of (Hmk.out _ hx2.s4)) (rs := [5]) (by kernel_rfl) (by simp) ?_; refine (AllReadyU.cons rfl (fun K hK => ?_) AllReadyU.nil); refine step_of rfl (store_set1 hx2.s4 (orB a (rngB lo lo)) _ _ rfl rfl rfl ?_); refine hK _ _ ?_
               clear hK K; refine wpAnyU_done (by kernel_rfl) (by kernel_rfl) (by go_simp <;> with_reducible rfl) ?_; have HX := Lib.hid (hx2.put (orB a (rngB lo lo))); clear hx2 Hmk; wkk; go_roundg gk
               case rel => exact ⟨_, false, j, rfl, hj, HC, HX⟩
               case measure => omega
       | false =>
         have h93 : ¬ isC S.data.toList i' 93 := fun q => hA ⟨rfl, q⟩
         have hcall := ps_is_n g S i' d 93 wr HX.out.ps h93; clear h93; wkk; refine Calls.mono (hcall) ?_; rintro _ w4 ⟨rfl, hb⟩; dsimp only; have HX := Lib.hid (HX.out.keep hb); clear hb hcall; wkk
         by_cases h92 : isC S.data.toList i' 92
         · rw [if_pos h92] at hC; have hcall := ps_is_y g S i' d 92 w4 HX.out.ps h92; have hi1 : i' + 1 ≤ S.size := by have := h92.1; rw [ba_len] at this; omega
           have hS512 := HS.out; have hw : IntKind.i64.wrap ((i' : Int) + 1) = ((i' + 1 : Nat) : Int) := by rw [wi64 (by unfold I64; omega)]; omega
           have hw2 : IntKind.i64.wrap (((i' + 1 : Nat) : Int) - 1) = (i' : Int) := by rw [wi64 (by unfold I64; omega)]; omega
           have Hlt := Lib.hid (fun (k : Nat → Bool) (h : kndR S.data.toList (i' + 1) = some k) => kndR_lt h); have HI2 : Hid (i' + 1 + 1 = i' + 2) := Lib.hid rfl; obtain ⟨i1, hi1e⟩ : ∃ i1, i' + 1 = i1 := ⟨_, rfl⟩; rw [hi1e] at hw hw2 hC hi1 HI2 Hlt; have hi1512 : i1 ≤ 512 := by omega
           clear h92 hA hi1e hS512; refine Calls.mono (hcall) ?_; rintro _ wv ⟨rfl, hb⟩; dsimp only; have HX := Lib.hid (HX.out.keep hb); have c1 := HX.out.ps.c1; have f1 := HX.out.ps.free 1; clear hb hcall; have HY := Lib.hid (HX.out.setI i1); wkk; have hk := ps_kind g S i1 d hi1512 _ HY.out.ps; clear c1 f1 HX
           cases hK : kndR S.data.toList i1 with
           | some p =>
             rw [hK] at hk hC; have HI3 := Lib.hid (Hlt.out p hK); dsimp only at hC; have HC := Lib.hid hC; clear hK hC hw2; refine Calls.mono (hk) ?_; rintro _ wk ⟨rfl, hpk, hek⟩; dsimp only; have HX := Lib.hid (HY.out.go hpk hek); clear hk hpk hek; have HL4 := Lib.hid (HX.out.keep ((Below.refl _ _).alloc (Nat.le_refl _) (.cells (sc p) 30))).s4; have HL6 : Hid (SetAt (wk.alloc (.cells (sc p) 30)) wk.heap.size p) := Lib.hid (Go.heap_alloc_new _ _); have HXb := Lib.hid (HX.out.keep ((Below.refl _ _).alloc (Nat.le_refl _) (.cells (sc p) 30)))
             wkka (first | (with_reducible refine load_set1 HL4.out _ rfl rfl ?_; dsimp only [Act.put]) | (with_reducible refine load_set1 HL6.out _ rfl rfl ?_; dsimp only [Act.put])); refine Calls.mono ((k_join _ _ _)) ?_; rintro _ wm ⟨rfl, hb⟩; dsimp only; have HX := Lib.hid (HXb.out.keep hb); clear hb HXb HL4 HL6; wkka (first | (with_reducible refine store_set1 HX.out.s4 _ _ _ rfl rfl rfl ?_; dsimp only [Act.put])); go_roundg gk
             case rel => exact ⟨_, false, i1 + 1, rfl, by have := HI3.out; rw [ba_len] at this; omega, by rw [HI2.out]; exact HC, Lib.hid (HX.out.put (orB a p))⟩
             case measure => omega
           | none =>
             rw [hK] at hk hC; dsimp only at hC; clear hK; refine Calls.mono (hk) ?_; rintro _ wk ⟨rfl, hpk, hek⟩; dsimp only; have HX := Lib.hid (HY.out.go hpk hek); have HXb := Lib.hid (HX.out.keep ((Below.refl _ _).alloc (Nat.le_refl _) (.cells (sc fun _ => false) 30))); clear hk hpk hek HY HX; have c1 := HXb.out.ps.c1; have f1 := HXb.out.ps.free 1; have HX := Lib.hid (HXb.out.setI i'); wkk; clear c1 f1 HXb hw hw2 hi1 hi1512 Hlt HI2; have hp := ps_point g S i' d HS.out hi' _ HX.out.ps
             cases hP : pntR S.data.toList i' with
             | bad e0 j =>
               rw [hP] at hp hC; have HC := Lib.hid hC.symm; clear hC; refine Calls.mono hp ?_; rintro _ wy ⟨rfl, he⟩; exact ⟨rfl, TPost.badI (by rw [HC.out]; rfl) ⟨rfl, HX.out.els.trans he⟩⟩
             | out => exact absurd hP pntR_out
             | ok lo j =>
               have hlo := pntR_lt hP; have hj : j ≤ S.size := by have := ((pntR_in (s := S.data.toList) (i := i') (by rw [ba_len]; exact hi')).okB hP).2; rw [ba_len] at this; exact this
               rw [hP] at hp hC; simp only [PR.bind] at hC; clear hP; refine Calls.mono (hp) ?_; rintro _ wy ⟨rfl, hpy, hey⟩; dsimp only; have HX := Lib.hid (HX.out.go hpy hey); clear hp hpy hey
               by_cases h45 : isC S.data.toList j 45
               · rw [if_pos h45] at hC; have ht := ps_take_y g S j d 45 (by have := HS.out; omega) wy HX.out.ps h45; have hj1 : j + 1 ≤ S.size := by have := h45.1; rw [ba_len] at this; omega
                 clear h45 hj; obtain ⟨j1, hj1e⟩ : ∃ j1, j + 1 = j1 := ⟨_, rfl⟩; rw [hj1e] at ht hC hj1; have Hj1e := Lib.hid hj1e; clear hj1e; wkk; refine Calls.mono (ht) ?_; rintro _ wz ⟨rfl, hpz, hez⟩; dsimp only; have HX := Lib.hid (HX.out.go hpz hez); have c1 := HX.out.ps.c1; clear ht hpz hez; wkk; have hp := ps_point g S j1 d HS.out hj1 wz HX.out.ps
                 cases hP : pntR S.data.toList j1 with
                 | bad e0 k =>
                   rw [hP] at hp hC; have HC := Lib.hid hC.symm; clear hC; refine Calls.mono hp ?_; rintro _ wq ⟨rfl, he⟩; exact ⟨rfl, TPost.badI (by rw [HC.out]; rfl) ⟨rfl, HX.out.els.trans he⟩⟩
                 | out => exact absurd hP pntR_out
                 | ok hi k =>
                   have hhi := pntR_lt hP; have hk : k ≤ S.size := by have := ((pntR_in (s := S.data.toList) (i := j1) (by rw [ba_len]; exact hj1)).okB hP).2; rw [ba_len] at this; exact this
                   rw [hP] at hp hC; dsimp only at hC; clear hP c1; refine Calls.mono (hp) ?_; rintro _ wq ⟨rfl, hpq, heq⟩; dsimp only; have HX := Lib.hid (HX.out.go hpq heq); clear hp hpq heq
                   by_cases hl : hi < lo
                   · rw [if_pos hl] at hC; have HC := Lib.hid hC.symm; have hl' : (hi : Int) < (lo : Int) := by omega
                     clear hC hl; wkk; exact ⟨rfl, TPost.badI (by rw [HC.out]; rfl) ⟨rfl, HX.out.els⟩⟩
                   · rw [if_neg hl] at hC; have HC := Lib.hid hC; have hl' : ¬ (hi : Int) < (lo : Int) := by omega
                     clear hC hl hj1; wkk; obtain ⟨C, hC⟩ : ∃ C : World → Prop, C = fun W => SetAt W b4 a := ⟨_, rfl⟩
                     have Hmk : Hid (∀ W, SetAt W b4 a → C W) := Lib.hid (fun W h => by rw [hC]; exact h); have hC' : ∀ W, C W → SetAt W b4 a := fun W h => by rw [hC] at h; exact h
                     have q0 : ∀ nq : GW C, nq.1.cell? ⟨b4, 0, none⟩ = some (.int .u64 (W a 0 : Nat)) := fun nq => (hC' _ nq.2).c0
                     have q1 : ∀ nq : GW C, nq.1.cell? ⟨b4, 1, none⟩ = some (.int .u64 (W a 1 : Nat)) := fun nq => (hC' _ nq.2).c1
                     have q2 : ∀ nq : GW C, nq.1.cell? ⟨b4, 2, none⟩ = some (.int .u64 (W a 2 : Nat)) := fun nq => (hC' _ nq.2).c2
                     have q3 : ∀ nq : GW C, nq.1.cell? ⟨b4, 3, none⟩ = some (.int .u64 (W a 3 : Nat)) := fun nq => (hC' _ nq.2).c3
                     clear hC hC'; refine wp_region_anyU (by kernel_rfl) C 5 ?_; refine tkU 0 rfl ?_; refine tkU 1 rfl ?_; refine tkU 2 rfl ?_; clear q0 q1 q2 q3; refine genUw (fun W => CX w Z g b4 S d a k W) (HX.out.keep (Below.refl _ _).drew) ?_; clear HX; intro W0 hx0; have hr := set_Range lo hi hlo hhi; refine wpAnyU_ready (CG.of (Hmk.out _ hx0.s4)) (rs := [3]) (by kernel_rfl) (by simp) ?_; refine (AllReadyU.cons rfl (fun K hK => ?_) AllReadyU.nil); go_simp; refine Calls.mono ((hr W0)) ?_; rintro _ W1 ⟨rfl, hb⟩; dsimp only; refine hK _ _ ?_; clear hK K
                     have hx1 := hx0.keep hb; clear hb hx0 hr; refine wpAnyU_ready (CG.of (Hmk.out _ hx1.s4)) (rs := [4]) (by kernel_rfl) (by simp) ?_; refine (AllReadyU.cons rfl (fun K hK => ?_) AllReadyU.nil); go_simp; refine Calls.mono ((k_join _ _ W1)) ?_; rintro _ W2 ⟨rfl, hb⟩; dsimp only; refine hK _ _ ?_; clear hK K; have hx2 := hx1.keep hb; clear hb hx1; refine wpAnyU_ready (CG.of (Hmk.out _ hx2.s4)) (rs := [5]) (by kernel_rfl) (by simp) ?_; refine (AllReadyU.cons rfl (fun K hK => ?_) AllReadyU.nil)
                     refine step_of rfl (store_set1 hx2.s4 (orB a (rngB lo hi)) _ _ rfl rfl rfl ?_); refine hK _ _ ?_; clear hK K; refine wpAnyU_done (by kernel_rfl) (by kernel_rfl) (by go_simp <;> with_reducible rfl) ?_; have HX := Lib.hid (hx2.put (orB a (rngB lo hi))); clear hx2 Hmk; wkk; go_roundg gk
                     case rel => exact ⟨_, false, k, rfl, hk, HC, HX⟩
                     case measure => omega
               · rw [if_neg h45] at hC; have HC := Lib.hid hC; have ht := ps_take_n g S j d 45 wy HX.out.ps h45; clear hC h45; wkk; refine Calls.mono (ht) ?_; rintro _ wz ⟨rfl, hb⟩; dsimp only; have HX := Lib.hid (HX.out.keep hb); clear ht hb; wkk; obtain ⟨C, hC⟩ : ∃ C : World → Prop, C = fun W => SetAt W b4 a := ⟨_, rfl⟩
                 have Hmk : Hid (∀ W, SetAt W b4 a → C W) := Lib.hid (fun W h => by rw [hC]; exact h); have hC' : ∀ W, C W → SetAt W b4 a := fun W h => by rw [hC] at h; exact h
                 have q0 : ∀ nq : GW C, nq.1.cell? ⟨b4, 0, none⟩ = some (.int .u64 (W a 0 : Nat)) := fun nq => (hC' _ nq.2).c0
                 have q1 : ∀ nq : GW C, nq.1.cell? ⟨b4, 1, none⟩ = some (.int .u64 (W a 1 : Nat)) := fun nq => (hC' _ nq.2).c1
                 have q2 : ∀ nq : GW C, nq.1.cell? ⟨b4, 2, none⟩ = some (.int .u64 (W a 2 : Nat)) := fun nq => (hC' _ nq.2).c2
                 have q3 : ∀ nq : GW C, nq.1.cell? ⟨b4, 3, none⟩ = some (.int .u64 (W a 3 : Nat)) := fun nq => (hC' _ nq.2).c3
                 clear hC hC'; refine wp_region_anyU (by kernel_rfl) C 5 ?_; refine tkU 0 rfl ?_; refine tkU 1 rfl ?_; refine tkU 2 rfl ?_; clear q0 q1 q2 q3; refine genUw (fun W => CX w Z g b4 S d a j W) (HX.out.keep (Below.refl _ _).drew) ?_; clear HX; intro W0 hx0; have hr := set_Range lo lo hlo hlo; refine wpAnyU_ready (CG.of (Hmk.out _ hx0.s4)) (rs := [3]) (by kernel_rfl) (by simp) ?_; refine (AllReadyU.cons rfl (fun K hK => ?_) AllReadyU.nil); go_simp; refine Calls.mono ((hr W0)) ?_; rintro _ W1 ⟨rfl, hb⟩; dsimp only; refine hK _ _ ?_; clear hK K
                 have hx1 := hx0.keep hb; clear hb hx0 hr; refine wpAnyU_ready (CG.of (Hmk.out _ hx1.s4)) (rs := [4]) (by kernel_rfl) (by simp) ?_; refine (AllReadyU.cons rfl (fun K hK => ?_) AllReadyU.nil); go_simp; refine Calls.mono ((k_join _ _ W1)) ?_; rintro _ W2 ⟨rfl, hb⟩; dsimp only; refine hK _ _ ?_; clear hK K; have hx2 := hx1.keep hb; clear hb hx1; refine wpAnyU_ready (CG.of (Hmk.out _ hx2.s4)) (rs := [5]) (by kernel_rfl) (by simp) ?_; refine (AllReadyU.cons rfl (fun K hK => ?_) AllReadyU.nil)
                 refine step_of rfl (store_set1 hx2.s4 (orB a (rngB lo lo)) _ _ rfl rfl rfl ?_); refine hK _ _ ?_; clear hK K; refine wpAnyU_done (by kernel_rfl) (by kernel_rfl) (by go_simp <;> with_reducible rfl) ?_; have HX := Lib.hid (hx2.put (orB a (rngB lo lo))); clear hx2 Hmk; wkk; go_roundg gk
                 case rel => exact ⟨_, false, j, rfl, hj, HC, HX⟩
                 case measure => omega
         · rw [if_neg h92] at hC; have hcall := ps_is_n g S i' d 92 w4 HX.out.ps h92; clear h92 hA; refine Calls.mono (hcall) ?_; rintro _ wv ⟨rfl, hb⟩; dsimp only; have HX := Lib.hid (HX.out.keep hb); clear hb hcall; dsimp only at hC; wkk; have hp := ps_point g S i' d HS.out hi' wv HX.out.ps
           cases hP : pntR S.data.toList i' with
           | bad e0 j =>
             rw [hP] at hp hC; have HC := Lib.hid hC.symm; clear hC; refine Calls.mono hp ?_; rintro _ wy ⟨rfl, he⟩; exact ⟨rfl, TPost.badI (by rw [HC.out]; rfl) ⟨rfl, HX.out.els.trans he⟩⟩
           | out => exact absurd hP pntR_out
           | ok lo j =>
             have hlo := pntR_lt hP; have hj : j ≤ S.size := by have := ((pntR_in (s := S.data.toList) (i := i') (by rw [ba_len]; exact hi')).okB hP).2; rw [ba_len] at this; exact this
             rw [hP] at hp hC; simp only [PR.bind] at hC; clear hP; refine Calls.mono (hp) ?_; rintro _ wy ⟨rfl, hpy, hey⟩; dsimp only; have HX := Lib.hid (HX.out.go hpy hey); clear hp hpy hey
             by_cases h45 : isC S.data.toList j 45
             · rw [if_pos h45] at hC; have ht := ps_take_y g S j d 45 (by have := HS.out; omega) wy HX.out.ps h45; have hj1 : j + 1 ≤ S.size := by have := h45.1; rw [ba_len] at this; omega
               clear h45 hj; obtain ⟨j1, hj1e⟩ : ∃ j1, j + 1 = j1 := ⟨_, rfl⟩; rw [hj1e] at ht hC hj1; have Hj1e := Lib.hid hj1e; clear hj1e; wkk; refine Calls.mono (ht) ?_; rintro _ wz ⟨rfl, hpz, hez⟩; dsimp only; have HX := Lib.hid (HX.out.go hpz hez); have c1 := HX.out.ps.c1; clear ht hpz hez; wkk; have hp := ps_point g S j1 d HS.out hj1 wz HX.out.ps
               cases hP : pntR S.data.toList j1 with
               | bad e0 k =>
                 rw [hP] at hp hC; have HC := Lib.hid hC.symm; clear hC; refine Calls.mono hp ?_; rintro _ wq ⟨rfl, he⟩; exact ⟨rfl, TPost.badI (by rw [HC.out]; rfl) ⟨rfl, HX.out.els.trans he⟩⟩
               | out => exact absurd hP pntR_out
               | ok hi k =>
                 have hhi := pntR_lt hP; have hk : k ≤ S.size := by have := ((pntR_in (s := S.data.toList) (i := j1) (by rw [ba_len]; exact hj1)).okB hP).2; rw [ba_len] at this; exact this
                 rw [hP] at hp hC; dsimp only at hC; clear hP c1; refine Calls.mono (hp) ?_; rintro _ wq ⟨rfl, hpq, heq⟩; dsimp only; have HX := Lib.hid (HX.out.go hpq heq); clear hp hpq heq
                 by_cases hl : hi < lo
                 · rw [if_pos hl] at hC; have HC := Lib.hid hC.symm; have hl' : (hi : Int) < (lo : Int) := by omega
                   clear hC hl; wkk; exact ⟨rfl, TPost.badI (by rw [HC.out]; rfl) ⟨rfl, HX.out.els⟩⟩
                 · rw [if_neg hl] at hC; have HC := Lib.hid hC; have hl' : ¬ (hi : Int) < (lo : Int) := by omega
                   clear hC hl hj1; wkk; obtain ⟨C, hC⟩ : ∃ C : World → Prop, C = fun W => SetAt W b4 a := ⟨_, rfl⟩
                   have Hmk : Hid (∀ W, SetAt W b4 a → C W) := Lib.hid (fun W h => by rw [hC]; exact h); have hC' : ∀ W, C W → SetAt W b4 a := fun W h => by rw [hC] at h; exact h
                   have q0 : ∀ nq : GW C, nq.1.cell? ⟨b4, 0, none⟩ = some (.int .u64 (W a 0 : Nat)) := fun nq => (hC' _ nq.2).c0
                   have q1 : ∀ nq : GW C, nq.1.cell? ⟨b4, 1, none⟩ = some (.int .u64 (W a 1 : Nat)) := fun nq => (hC' _ nq.2).c1
                   have q2 : ∀ nq : GW C, nq.1.cell? ⟨b4, 2, none⟩ = some (.int .u64 (W a 2 : Nat)) := fun nq => (hC' _ nq.2).c2
                   have q3 : ∀ nq : GW C, nq.1.cell? ⟨b4, 3, none⟩ = some (.int .u64 (W a 3 : Nat)) := fun nq => (hC' _ nq.2).c3
                   clear hC hC'; refine wp_region_anyU (by kernel_rfl) C 5 ?_; refine tkU 0 rfl ?_; refine tkU 1 rfl ?_; refine tkU 2 rfl ?_; clear q0 q1 q2 q3; refine genUw (fun W => CX w Z g b4 S d a k W) (HX.out.keep (Below.refl _ _).drew) ?_; clear HX; intro W0 hx0; have hr := set_Range lo hi hlo hhi; refine wpAnyU_ready (CG.of (Hmk.out _ hx0.s4)) (rs := [3]) (by kernel_rfl) (by simp) ?_; refine (AllReadyU.cons rfl (fun K hK => ?_) AllReadyU.nil); go_simp; refine Calls.mono ((hr W0)) ?_; rintro _ W1 ⟨rfl, hb⟩; dsimp only; refine hK _ _ ?_; clear hK K
                   have hx1 := hx0.keep hb; clear hb hx0 hr; refine wpAnyU_ready (CG.of (Hmk.out _ hx1.s4)) (rs := [4]) (by kernel_rfl) (by simp) ?_; refine (AllReadyU.cons rfl (fun K hK => ?_) AllReadyU.nil); go_simp; refine Calls.mono ((k_join _ _ W1)) ?_; rintro _ W2 ⟨rfl, hb⟩; dsimp only; refine hK _ _ ?_; clear hK K; have hx2 := hx1.keep hb; clear hb hx1; refine wpAnyU_ready (CG.of (Hmk.out _ hx2.s4)) (rs := [5]) (by kernel_rfl) (by simp) ?_; refine (AllReadyU.cons rfl (fun K hK => ?_) AllReadyU.nil)
                   refine step_of rfl (store_set1 hx2.s4 (orB a (rngB lo hi)) _ _ rfl rfl rfl ?_); refine hK _ _ ?_; clear hK K; refine wpAnyU_done (by kernel_rfl) (by kernel_rfl) (by go_simp <;> with_reducible rfl) ?_; have HX := Lib.hid (hx2.put (orB a (rngB lo hi))); clear hx2 Hmk; wkk; go_roundg gk
                   case rel => exact ⟨_, false, k, rfl, hk, HC, HX⟩
                   case measure => omega
             · rw [if_neg h45] at hC; have HC := Lib.hid hC; have ht := ps_take_n g S j d 45 wy HX.out.ps h45; clear hC h45; wkk; refine Calls.mono (ht) ?_; rintro _ wz ⟨rfl, hb⟩; dsimp only; have HX := Lib.hid (HX.out.keep hb); clear ht hb; wkk; obtain ⟨C, hC⟩ : ∃ C : World → Prop, C = fun W => SetAt W b4 a := ⟨_, rfl⟩
               have Hmk : Hid (∀ W, SetAt W b4 a → C W) := Lib.hid (fun W h => by rw [hC]; exact h); have hC' : ∀ W, C W → SetAt W b4 a := fun W h => by rw [hC] at h; exact h
               have q0 : ∀ nq : GW C, nq.1.cell? ⟨b4, 0, none⟩ = some (.int .u64 (W a 0 : Nat)) := fun nq => (hC' _ nq.2).c0
               have q1 : ∀ nq : GW C, nq.1.cell? ⟨b4, 1, none⟩ = some (.int .u64 (W a 1 : Nat)) := fun nq => (hC' _ nq.2).c1
               have q2 : ∀ nq : GW C, nq.1.cell? ⟨b4, 2, none⟩ = some (.int .u64 (W a 2 : Nat)) := fun nq => (hC' _ nq.2).c2
               have q3 : ∀ nq : GW C, nq.1.cell? ⟨b4, 3, none⟩ = some (.int .u64 (W a 3 : Nat)) := fun nq => (hC' _ nq.2).c3
               clear hC hC'; refine wp_region_anyU (by kernel_rfl) C 5 ?_; refine tkU 0 rfl ?_; refine tkU 1 rfl ?_; refine tkU 2 rfl ?_; clear q0 q1 q2 q3; refine genUw (fun W => CX w Z g b4 S d a j W) (HX.out.keep (Below.refl _ _).drew) ?_; clear HX; intro W0 hx0; have hr := set_Range lo lo hlo hlo; refine wpAnyU_ready (CG.of (Hmk.out _ hx0.s4)) (rs := [3]) (by kernel_rfl) (by simp) ?_; refine (AllReadyU.cons rfl (fun K hK => ?_) AllReadyU.nil); go_simp; refine Calls.mono ((hr W0)) ?_; rintro _ W1 ⟨rfl, hb⟩; dsimp only; refine hK _ _ ?_; clear hK K; have hx1 := hx0.keep hb
               clear hb hx0 hr; refine wpAnyU_ready (CG.of (Hmk.out _ hx1.s4)) (rs := [4]) (by kernel_rfl) (by simp) ?_; refine (AllReadyU.cons rfl (fun K hK => ?_) AllReadyU.nil); go_simp; refine Calls.mono ((k_join _ _ W1)) ?_; rintro _ W2 ⟨rfl, hb⟩; dsimp only; refine hK _ _ ?_; clear hK K; have hx2 := hx1.keep hb; clear hb hx1; refine wpAnyU_ready (CG.of (Hmk.out _ hx2.s4)) (rs := [5]) (by kernel_rfl) (by simp) ?_; refine (AllReadyU.cons rfl (fun K hK => ?_) AllReadyU.nil); refine step_of rfl (store_set1 hx2.s4 (orB a (rngB lo lo)) _ _ rfl rfl rfl ?_); refine hK _ _ ?_
               clear hK K; refine wpAnyU_done (by kernel_rfl) (by kernel_rfl) (by go_simp <;> with_reducible rfl) ?_; have HX := Lib.hid (hx2.put (orB a (rngB lo lo))); clear hx2 Hmk; wkk; go_roundg gk
               case rel => exact ⟨_, false, j, rfl, hj, HC, HX⟩
               case measure => omega
open Go.RowKit Go.Lib
def Zp (B g : Nat) (w : World) (ks : List RN) (ts : List Re) : Prop := ks.length = ts.length ∧ ∀ (i : Nat) r t, ks[i]? = some r → ts[i]? = some t → ReX B g w r t
theorem Zp.append {B g : Nat} {w : World} {ks ks2 : List RN} {ts ts2 : List Re} (h : Zp B g w ks ts) (h2 : Zp B g w ks2 ts2) : Zp B g w (ks ++ ks2) (ts ++ ts2) := by
 refine ⟨by rw [List.length_append, List.length_append, h.1, h2.1], fun i r t hr ht => ?_⟩
 by_cases hi : i < ks.length
 · rw [List.getElem?_append_left hi] at hr; rw [List.getElem?_append_left (by rw [← h.1]; exact hi)] at ht; exact h.2 i r t hr ht
 · rw [List.getElem?_append_right (by omega)] at hr; rw [List.getElem?_append_right (by rw [← h.1]; omega), ← h.1] at ht; exact h2.2 _ r t hr ht
theorem Zp.one {B g : Nat} {w : World} {r : RN} {t : Re} (h : ReX B g w r t) : Zp B g w [r] [t] := ⟨rfl, fun i r' t' hr ht => by
 have hi : i = 0 := by have := (List.getElem?_eq_some_iff.1 hr).1; simpa using this
 subst hi; simp only [List.getElem?_cons_zero, Option.some.injEq] at hr ht
 subst hr ht; exact h⟩
theorem ReX.open {B p : Nat} {w : World} {r : RN} {t : Re} (h : ReX B p w r t) : ∃ rs, RowOf reC 8 w r.v rs ∧ Zp B p w rs t.kidsP ∧ ∀ y, y ∈ rs → ∀ u ∈ reC y, u.oneCell' = true := by
 cases h with
 | mk _ kids rs hI hk hrow hb hl hs =>
   refine ⟨rs, hrow, ⟨hl, hs⟩, fun y hy => ?_⟩; obtain ⟨i, hi⟩ := List.getElem?_of_mem hy; have hlt : i < kids.length := by rw [← hl]; exact (List.getElem?_eq_some_iff.1 hi).1
   exact reC_oneAll (hs i y _ hi (List.getElem?_eq_getElem hlt)).one
/-- the world within the loop of 'join' -/
structure JW (w : World) (Z : Nat) (W : World) : Prop where
 bel : Below Z w W
 box : ReBox W Z reZ
 sz : Z < W.heap.size
theorem JW.keep {w W W' : World} {Z : Nat} (h : JW w Z W) (hb : Below W.heap.size W W') : JW w Z W' := ⟨h.bel.trans (hb.mono (Nat.le_of_lt h.sz)), h.box.keep hb, Nat.lt_of_lt_of_le h.sz hb.size⟩
theorem JW.grow {w W W' : World} {Z : Nat} {v : Option Nat} (h : JW w Z W) (hg : W.grownBy W' v) (hv : ∀ k, v = some k → Z + 1 ≤ k) : JW w Z W' :=
 ⟨h.bel.trans ((Below.refl _ _).grown hg (Nat.le_of_lt h.sz) fun k hk => by have := hv k hk; omega), by
   unfold ReBox; rw [hg.block Z h.sz (fun e => by have := hv Z e.symm; omega)]; exact h.box, Nat.lt_of_lt_of_le h.sz hg.size⟩
set_option maxRecDepth 100000 in
set_option maxHeartbeats 4000000 in
theorem re_join (kind : Int) (hkI : I64 kind) (B g : Nat) (v : Value) (rs : List RN) (l : List Re) (w : World) (hrow : RowOf reC 8 w v rs) (hx : Zp B g w rs l) (hB : B ≤ w.heap.size) (hg : g < B) (hsz : Re.szL l ≤ 100000) :
   Calls Tryd.prog 72 #[.int .i64 kind, v] w fun e w' => ∃ r, e = .returned (reV r) ∧ ReX B g w' r (joinT kind l) ∧ Below w.heap.size w w' := by
 obtain ⟨a, cap, hv, _, _, hc⟩ := hrow.open reC_length; subst hv; obtain ⟨n, hn⟩ : ∃ n, rs.length = n := ⟨_, rfl⟩; have hnl : n ≤ 100000 := by rw [← hn, hx.1]; exact Nat.le_trans (szL_len l) hsz
 have HX := Lib.hid hx; have HN := Lib.hid hn
 have HF := Lib.hid (fun k => Nat.le_trans (szL_len _) (Nat.le_trans (flatT_le kind (l.take k)) (Nat.le_trans (by
   have := szL_append (l.take k) (l.drop k); rw [List.take_append_drop] at this; omega) hsz)))
 have HG := Lib.hid hg; have HBz := Lib.hid hB; rw [hn] at hc ⊢; clear hx hn hsz hrow hg hB; have HJ : Hid (JW w w.heap.size (w.alloc (.cells #[.int .i64 0, .int .u64 0, .int .u64 0, .int .u64 0, .int .u64 0, .int .i64 0, .int .i64 0, .slice none 0 0] 33))) := Lib.hid ⟨(Below.refl _ _).alloc (Nat.le_refl _) _, ReBox.zero w, by simp⟩; go_enter Tryd.func72, Tryd.ntmps72
 repeat' (go_not_at_region 1; first | go_values | go_skip | go_guarded | go_step | go_upon)
 generalize hZ : w.heap.size = Z at HJ hc HBz ⊢; refine gen_wd (fun W => JW w Z W) HJ.out ?_; clear HJ; rintro w1 hj; have HJ1 := Lib.hid hj; have HZ := Lib.hid hZ; clear hj hZ; wkk
 go_loopg [5, 10] n (fun gk s5 s10 wr => ∃ (k : Nat) (ks : List RN), s10 = .int .i64 k ∧ k + gk = n ∧ Hid (OwnR reC 8 (Z + 1) 33 wr s5 ks) ∧ Hid (Zp B g w ks (flatT kind (l.take k))) ∧ Hid (JW w Z wr))
 case atStart => exact ⟨0, [], rfl, by omega, Lib.hid OwnR.nil, Lib.hid ⟨rfl, fun i r t h => by simp at h⟩, HJ1⟩
 case round =>
   clear HJ1; obtain ⟨k, ks, rfl, hkn, HO, HK, HJ⟩ := hrel; have hown := HO.out; have hwB : Z + 1 ≤ wr.heap.size := HJ.out.sz; have hks : ks.length ≤ 100000 := by rw [HK.out.1]; exact HF.out k
   by_cases hlt : k < n
   · have hlt' : (k : Int) < n := by omega
     rcases hc with hc | ⟨b, off, rfl, hb, hc⟩
     · omega
     obtain ⟨r, hr⟩ : ∃ r, rs[k]? = some r := ⟨_, List.getElem?_eq_getElem (by rw [HN.out]; exact hlt)⟩; obtain ⟨t, ht⟩ : ∃ t, l[k]? = some t := ⟨_, List.getElem?_eq_getElem (by rw [← HX.out.1, HN.out]; exact hlt)⟩; have hxr := HX.out.2 k r t hr ht; have hbZ : b < Z := by have := HZ.out; omega
     obtain ⟨c0, c1, c2, c3, c4, c5, c6, c7⟩ := (row_load hc hr).keep HJ.out.bel hbZ; have hone := hxr.one; have HKr := Lib.hid (hxr.kindIs)
     have Htk : Hid (flatT kind (l.take (k + 1)) = flatT kind (l.take k) ++ (if t.kindP = kind then t.kidsP else [t])) := Lib.hid (by
       rw [List.take_add_one, ht]; exact flatT_snoc kind _ t)
     have HXr := Lib.hid hxr; have Hlen := Lib.hid (HF.out (k + 1)); have HJb : Hid (JW w Z (wr.alloc (.cells (reC r).toArray 33))) := Lib.hid (HJ.out.keep ((Below.refl _ _).alloc (Nat.le_refl _) _)); have HOb : Hid (OwnR reC 8 (Z + 1) 33 (wr.alloc (.cells (reC r).toArray 33)) u5 ks) := Lib.hid (hown.keep ((Below.refl _ _).alloc (Nat.le_refl _) _) (Nat.le_refl _)); clear hc hxr hown
     repeat' (go_not_at_region 5; first | (refine store_re (r := r) hone _ _ rfl rfl rfl rfl ?_; dsimp only [Act.put]) | go_values | go_skip | go_guarded | go_step | go_upon)
     have HB7 : Hid (ReBox (wr.alloc (.cells (reC r).toArray 33)) wr.heap.size r) := Lib.hid (ReBox.new wr r); clear HO HJ c0 c1 c2 c3 c4 c5 c6 c7 hwB hr ht hb hbZ; generalize hb7 : wr.heap.size = b7 at HB7 ⊢; refine gen_wd (fun W => JW w Z W ∧ OwnR reC 8 (Z + 1) 33 W u5 ks ∧ ReBox W b7 r) ⟨HJb.out, HOb.out, HB7.out⟩ ?_; clear HJb HOb HB7 hb7; rintro wb ⟨hj, ho, hb7⟩; have HJ := Lib.hid hj; have hown := ho; have hwB : Z + 1 ≤ wb.heap.size := hj.sz; have HB := Lib.hid hb7; have d0 : wb.cell? ⟨b7, 0, none⟩ = some (.int .i64 r.k) := by rw [cell_of_row _ _ _ _ _ _ hb7]; rfl
     have d7 : wb.cell? ⟨b7, 7, none⟩ = some r.v := by rw [cell_of_row _ _ _ _ _ _ hb7]; rfl
     have hbel : Hid (Below w.heap.size w wb) := Lib.hid (by rw [HZ.out]; exact hj.bel); clear hj ho hb7; have hown2 := fun q (hq : u5.ownBlock = some q) => (hown.below hq).1
     have HW2 := Lib.hid hown2; clear hown2
     by_cases hk : r.k = kind
     · have hq : (r.k == kind) = true := by rw [beq_iff_eq]; exact hk
       obtain ⟨rs', hrow', hz', hone'⟩ := HXr.out.open; have hrk := hrow'.keep hbel.out; have HT : Hid (flatT kind (l.take (k + 1)) = flatT kind (l.take k) ++ t.kidsP) := Lib.hid (by rw [Htk.out, if_pos (by rw [HKr.out]; exact hk)]); have hll : ks.length + rs'.length ≤ 100000 := by
         have h1 := Hlen.out; rw [HT.out, List.length_append, ← HK.out.1, ← hz'.1] at h1; exact h1
       have Hz := Lib.hid hz'; clear Htk Hlen hk hrow' hz' HXr HKr; wkka (first | (at_builtin; go_loud (refine app_res hone' rfl _ _ rfl rfl rfl hrk hown hwB hll ?_); intro v4 w4 ho4 hg4)); go_roundg (gk - 1)
       case rel => exact ⟨k + 1, ks ++ rs', by go_num, by omega, Lib.hid ho4, Lib.hid (by rw [HT.out]; exact HK.out.append Hz.out), Lib.hid (HJ.out.grow hg4 HW2.out)⟩
       case measure => omega
     · have hq : (r.k == kind) = false := beq_false_of_ne hk; have HT : Hid (flatT kind (l.take (k + 1)) = flatT kind (l.take k) ++ [t]) := Lib.hid (by rw [Htk.out, if_neg (by rw [HKr.out]; exact hk)]); clear Htk Hlen hk HKr; wkka (first | (with_reducible refine load_box HB.out _ rfl rfl ?_; dsimp only [Act.put, reV, reC]) | (at_builtin; go_loud (refine app_two 80 wb.heap.size rfl r reC_length (reC_oneAll hone) Tryd.underlying31 info_re3 rfl rfl _ _ rfl rfl rfl rfl hown hwB (by omega) (by unfold maxLen; omega) ?_); intro v4 w4 ho4 hg4 hs4)); go_roundg (gk - 1)
       case rel => exact ⟨k + 1, ks ++ [r], by go_num, by omega, Lib.hid ho4, Lib.hid (by rw [HT.out]; exact HK.out.append (Zp.one HXr.out)), Lib.hid ((HJ.out.keep ((Below.refl _ _).alloc (Nat.le_refl _) _)).grow hg4 HW2.out)⟩
       case measure => omega
   · have hlt' : ¬ (k : Int) < n := by omega
     have HT : Hid (flatT kind (l.take k) = flatT kind l) := Lib.hid (by rw [List.take_of_length_le (by rw [← HX.out.1, HN.out]; omega)]); have HK2 : Hid (Zp B g w ks (flatT kind l)) := Lib.hid (by rw [← HT.out]; exact HK.out); have HB := Lib.hid HJ.out.box; clear hc HK HT hlt hkn
     by_cases h1 : ks.length = 1
     · obtain ⟨r, hr⟩ := List.length_eq_one_iff.1 h1; subst hr; obtain ⟨t, ht⟩ := List.length_eq_one_iff.1 (HK2.out.1.symm.trans h1); obtain ⟨q, cap5, rfl⟩ := hown.somewhere (by simp); have hxr : ReX B g w r t := HK2.out.2 0 r t rfl (by rw [ht]; rfl); have hqr := (hown.below rfl).1; have hcc := fun j (hj : j < 8) => hown.cellAt reC_length 0 r j rfl hj
       have c0 := hcc 0 (by omega); have c1 := hcc 1 (by omega); have c2 := hcc 2 (by omega); have c3 := hcc 3 (by omega); have c4 := hcc 4 (by omega); have c5 := hcc 5 (by omega); have c6 := hcc 6 (by omega); have c7 := hcc 7 (by omega); simp only [reC, Nat.zero_mul, Nat.zero_add, List.getElem?_cons_zero, List.getElem?_cons_succ] at c0 c1 c2 c3 c4 c5 c6 c7; have hone := hxr.one; have HXr := Lib.hid hxr; have HTt : Hid (joinT kind l = t) := Lib.hid (joinT_one ht); clear hcc HO hown hxr ht h1
       wkka (first | (with_reducible refine store_box HB.out r hone _ _ rfl rfl rfl ?_; dsimp only [Act.put])); refine bodyPost_ret (results_re rfl _ _ _ _ rfl (HB.out.set _)) rfl ?_; have hbw : Below w.heap.size w (wr.setRow Z (reC r).toArray) := by rw [HZ.out]; exact Below.row HJ.out.bel (Nat.le_refl _) _
       exact ⟨r, rfl, by rw [HTt.out]; exact HXr.out.keepB hbw (Nat.le_refl _), hbw⟩
     · have h1' : (((ks.length : Nat) : Int) == 1) = false := beq_false_of_ne (by omega); have HTt : Hid (joinT kind l = .mk kind (0, 0, 0, 0) 0 0 (flatT kind l)) := Lib.hid (joinT_many (by rw [← HK2.out.1]; exact h1)); obtain ⟨a5, cap5, rfl, _, _⟩ := hown.form; clear h1 HO; wkka (first | (with_reducible refine store_box HB.out ⟨kind, (0, 0, 0, 0), 0, 0, .slice a5 ks.length cap5⟩ rfl _ _ rfl rfl rfl ?_; dsimp only [Act.put])); refine bodyPost_ret (results_re rfl _ _ _ _ rfl (HB.out.set _)) rfl ?_
       have hbw : Below w.heap.size w (wr.setRow Z (reC ⟨kind, (0, 0, 0, 0), 0, 0, .slice a5 ks.length cap5⟩).toArray) := by rw [HZ.out]; exact Below.row HJ.out.bel (Nat.le_refl _) _
       refine ⟨_, rfl, ?_, hbw⟩; rw [HTt.out]; have ho2 : OwnR reC 8 (Z + 1) 33 (wr.setRow Z (reC ⟨kind, (0, 0, 0, 0), 0, 0, .slice a5 ks.length cap5⟩).toArray) (.slice a5 ks.length cap5) ks := hown.other fun q hq => setRow_other _ _ _ _ (by have := (hown.below hq).1; omega)
       refine .mk ⟨kind, (0, 0, 0, 0), 0, 0, .slice a5 ks.length cap5⟩ (flatT kind l) ks ⟨hkI, by show I64 0; unfold I64; omega, by show I64 0; unfold I64; omega⟩ (by rw [← HK2.out.1]; omega) ho2.row ?_ HK2.out.1 fun i r t hr ht => (HK2.out.2 i r t hr ht).keepB hbw (Nat.le_refl _)
       rcases Nat.eq_zero_or_pos ks.length with h0 | h0
       · exact .inl h0
       · obtain ⟨q, cap6, e⟩ := hown.somewhere h0; have hq1 := (hown.below (g := q) (by rw [e]; rfl)).1; exact .inr ⟨q, 0, _, _, e, by have := HBz.out; omega, by have := HBz.out; have := HG.out; omega⟩
open Go.RowKit Go.Lib
/-- the contract of a part, with so much fuel -/
def CT (g : Nat) (S : ByteArray) (fn : Nat) (k : Tk) (f : Nat) : Prop :=
 ∀ (d i : Nat) (w : World), i ≤ S.size → d ≤ 30 → PsAt w g S i d → prs S.data.toList f k d i ≠ .out → Calls Tryd.prog fn #[.pointer (some ⟨g, 0, none⟩)] w (TPost g S d w (prs S.data.toList f k d i))
/-- the result's box, the parser -/
structure AX (w : World) (Z g : Nat) (S : ByteArray) (d i : Nat) (W : World) : Prop where
 bx : ReBox W Z reZ
 ps : PsAt W g S i d
 els : Else g w W
 lt : g < Z
 sz : w.heap.size = Z
section
variable {w W W' : World} {Z g : Nat} {S : ByteArray} {d i : Nat}
theorem AX.keep (h : AX w Z g S d i W) (hb : Below W.heap.size W W') : AX w Z g S d i W' := ⟨h.bx.keep hb, h.ps.keep hb, h.els.trans (Else.of_below hb), h.lt, h.sz⟩
theorem AX.go {j d' : Nat} (h : AX w Z g S d i W) (hp : PsAt W' g S j d') (he : Else g W W') : AX w Z g S d' j W' := ⟨he.row h.bx (by have := h.lt; omega), hp, h.els.trans he, h.lt, h.sz⟩
theorem AX.grow {v : Option Nat} (h : AX w Z g S d i W) (hg : W.grownBy W' v) (hv : ∀ k, v = some k → Z + 1 ≤ k) : AX w Z g S d i W' := by
 have hk : ∀ k, k ≤ Z → W'.heap[k]? = W.heap[k]? := fun k hk => hg.block k (by have := h.bx.lt; omega) (fun e => by have := hv k e.symm; omega)
 refine ⟨by unfold ReBox; rw [hk Z (Nat.le_refl _)]; exact h.bx, by unfold PsAt; rw [hk g (by have := h.lt; omega)]; exact h.ps, ?_, h.lt, h.sz⟩; exact ⟨hg.os.trans h.els.os, hg.tape.trans h.els.tape, hg.output.trans h.els.output, Nat.le_trans h.els.size hg.size, fun k hk' hne => (hk k (by have := h.sz; omega)).trans (h.els.block k hk' hne)⟩
/-- the result laid into its box -/
theorem AX.done {r : RN} {t : Re} (h : AX w Z g S d i W) (hx : ReX (Z + 1) g W r t) : ReX w.heap.size g (W.setRow Z (reC r).toArray) r t ∧ PsAt (W.setRow Z (reC r).toArray) g S i d ∧ Else g w (W.setRow Z (reC r).toArray) :=
 ⟨(hx.keep (fun k hk _ _ => setRow_other _ _ _ _ (by omega)) (by simp)).mono (by have := h.sz; omega), h.ps.row (by have := h.lt; omega), h.els.rowNew (by have := h.sz; omega) _⟩
end
theorem AX.start {w : World} {g : Nat} {S : ByteArray} {i d : Nat} (h : PsAt w g S i d) : AX w w.heap.size g S d i (w.alloc (.cells #[.int .i64 0, .int .u64 0, .int .u64 0, .int .u64 0, .int .u64 0, .int .i64 0, .int .i64 0, .slice none 0 0] 33)) :=
 ⟨ReBox.zero w, h.keep ((Below.refl _ _).alloc (Nat.le_refl _) _), Else.of_below ((Below.refl _ _).alloc (Nat.le_refl _) _), h.lt, rfl⟩
theorem LsAt.zp {B g : Nat} {w : World} {v : Value} {l : List Re} (h : LsAt B w v l) (hg : g < B) : ∃ rs, RowOf reC 8 w v rs ∧ Zp B g w rs l := by
 obtain ⟨rs, h1, h2, h3⟩ := h; exact ⟨rs, h1.row, h2, fun i r t hr ht => h3 i r t hr ht g (.inr hg)⟩
set_option maxRecDepth 100000 in
set_option maxHeartbeats 4000000 in
theorem ps_alt (g : Nat) (S : ByteArray) (f : Nat) (hS : S.size ≤ 512) (IH : ∀ f', f' ≤ f → CT g S 70 (.cat []) f') : CT g S 63 .alt (f + 1) := by
 intro d i w hi hd h hn; rw [prs] at hn ⊢; have hcat := IH f (Nat.le_refl _) d i; have hin := prs_in (s := S.data.toList) f (.cat []) d i (by rw [ba_len]; exact hi); have hsz := prs_sz (s := S.data.toList) f (.cat []) d i (by rw [ba_len]; exact hi)
 cases hX : prs S.data.toList f (.cat []) d i with
 | out => rw [hX] at hn; exact absurd rfl hn
 | bad e0 j =>
   have hc := fun (W : World) (hp : PsAt W g S i d) => hcat W hi hd hp (by rw [hX]; intro e; cases e)
   simp only [hX] at hc; clear hcat hn hin hsz hX; have HA := Lib.hid (AX.start h); clear h; go_enter Tryd.func63, Tryd.ntmps63
   repeat' (go_not_at_region 1; first | go_values | go_skip | go_guarded | go_step | go_upon)
   generalize hZ : w.heap.size = Z at HA ⊢; refine gen_wd (fun W => AX w Z g S d i W) HA.out ?_; clear HA; rintro w1 hj; have HA := Lib.hid hj; clear hj hZ; wkk; have hc := hc w1 HA.out.ps; refine Calls.mono hc ?_; rintro _ wy ⟨rfl, he⟩; exact ⟨rfl, TPost.badI rfl ⟨rfl, HA.out.els.trans he⟩⟩
 | ok t0 j0 =>
   have hc := fun (W : World) (hp : PsAt W g S i d) => hcat W hi hd hp (by rw [hX]; intro e; cases e)
   simp only [hX] at hc; have hj := hin.okB hX; rw [ba_len] at hj; have hs0 := hsz _ _ hX; rw [hX] at hn; simp only [PR.bind, Tk.bound, Re.szL] at hn hs0 ⊢; obtain ⟨X0, hX0⟩ : ∃ X0, prs S.data.toList f (.altL [t0]) d j0 = X0 := ⟨_, rfl⟩; rw [hX0] at hn ⊢; have HX0 := Lib.hid hX0; have HN := Lib.hid hn; have hsl : Re.szL [t0] ≤ 2 * j0 + 1 := by simp only [Re.szL]; omega
   clear hcat hn hin hsz hX hX0 hs0; have HA := Lib.hid (AX.start h); clear h; go_enter Tryd.func63, Tryd.ntmps63
   repeat' (go_not_at_region 1; first | go_values | go_skip | go_guarded | go_step | go_upon)
   generalize hZ : w.heap.size = Z at HA ⊢; refine gen_wd (fun W => AX w Z g S d i W) HA.out ?_; clear HA; rintro w1 hj; have HA := Lib.hid hj; clear hj hZ; wkk; have hc := hc w1 HA.out.ps; refine Calls.mono (hc) ?_; rintro _ w2 ⟨⟨r, rfl, hx⟩, hp, he⟩; dsimp only; have hzlt := HA.out.bx.lt; have HA := Lib.hid (HA.out.go hp he); have HL : Hid (LsAt (Z + 1) (w2.alloc (.cells (reC r).toArray 33)) (.slice (some ⟨w2.heap.size, 0, none⟩) 1 1) [t0]) := Lib.hid (LsAt.single HA.out.bx.lt ⟨g, hx.mono hzlt⟩ fun q hq => (hx.mono hzlt).drop (.inl hq))
   have HA := Lib.hid (HA.out.keep ((Below.refl _ _).alloc (Nat.le_refl _) (.cells (reC r).toArray 33))); clear hc hx hp he hzlt; dsimp only [reV, reC]; wkk
   go_loopg [3] f (fun gk s3 wr => ∃ (l : List Re) (i' : Nat), i' ≤ S.size ∧ gk ≤ f ∧ Re.szL l ≤ 2 * i' + 1 ∧ Hid (prs S.data.toList gk (.altL l) d i' = X0) ∧ Hid (LsAt (Z + 1) wr s3 l) ∧ Hid (AX w Z g S d i' wr))
   case atStart => exact ⟨[t0], j0, hj.2, Nat.le_refl _, hsl, HX0, HL, HA⟩
   case round =>
     clear HX0 HL HA hsl hj hi; obtain ⟨l, i', hi', hgf, hsl, HC, HL, HA⟩ := hrel
     cases gk with
     | zero => exact absurd (by rw [← HC.out, prs]) HN.out
     | succ gk =>
       have hC := HC.out; rw [prs] at hC; clear HC
       by_cases h124 : isC S.data.toList i' 124
       · rw [if_pos h124] at hC; have ht := ps_take_y g S i' d 124 (by omega) wr HA.out.ps h124; have hi1 : i' + 1 ≤ S.size := by have := h124.1; rw [ba_len] at this; omega
         have hcat := fun W hp hne => IH gk (by omega) d (i' + 1) W hi1 hd hp hne
         have hin := prs_in (s := S.data.toList) gk (.cat []) d (i' + 1) (by rw [ba_len]; exact hi1); have hsz := prs_sz (s := S.data.toList) gk (.cat []) d (i' + 1) (by rw [ba_len]; exact hi1); clear h124; wkk; refine Calls.mono (ht) ?_; rintro _ w4 ⟨rfl, hp, he⟩; dsimp only; have HA := Lib.hid (HA.out.go hp he); have HL := Lib.hid (HL.out.els he (by have := HA.out.lt; omega)); clear ht hp he; wkk
         cases hX : prs S.data.toList gk (.cat []) d (i' + 1) with
         | out => rw [hX] at hC; exact absurd hC.symm HN.out
         | bad e0 j =>
           have hc := hcat w4 HA.out.ps (by rw [hX]; intro e; cases e); rw [hX] at hc hC; have HC := Lib.hid hC.symm; refine Calls.mono hc ?_; rintro _ wy ⟨rfl, he⟩; exact ⟨rfl, TPost.badI HC.out ⟨rfl, HA.out.els.trans he⟩⟩
         | ok t j =>
           have hc := hcat w4 HA.out.ps (by rw [hX]; intro e; cases e); have hj := hin.okB hX; rw [ba_len] at hj; have hs0 := hsz _ _ hX; rw [hX] at hc hC; simp only [PR.bind, Tk.bound, Re.szL, Tk.least] at hC hs0 hj; have HC := Lib.hid hC; clear hcat hin hsz hX hC; refine Calls.mono (hc) ?_; rintro _ w5 ⟨⟨r, rfl, hx⟩, hp, he⟩; dsimp only; have hz4 := HA.out.bx.lt
           have hr : Hid (∀ q, (u3.ownBlock = some q ∨ q < Z + 1) → ReX (Z + 1) q w5 r t) := Lib.hid (fun q hq => by
             obtain ⟨rs0, ho0, _⟩ := HL.out; refine (hx.drop (p' := q) ?_).mono (by omega)
             rcases hq with hq | hq
             · have := (ho0.below hq).2; exact .inl this
             · exact .inl (by omega))
           have HA := Lib.hid (HA.out.go hp he); have HL := Lib.hid (HL.out.els he (by have := HA.out.lt; omega)); clear hc hp he hz4; obtain ⟨rs, hown, hrl, h3⟩ := HL.out; have hlen : rs.length ≤ 2000 := by have := szL_len l; omega
           have hone := ReX.one hx; have HXX := Lib.hid hx; have HL3 := Lib.hid h3; have HO := Lib.hid hown; have hwB : Z + 1 ≤ w5.heap.size := HA.out.bx.lt; clear h3; dsimp only [reV, reC]; wkka (first | (at_builtin; go_loud (refine app_two 80 w5.heap.size rfl r reC_length (reC_oneAll hone) Tryd.underlying31 info_re3 rfl rfl _ _ rfl rfl rfl rfl hown hwB (by omega) (by unfold maxLen; omega) ?_); intro v6 w6 ho6 hg6 hs6)); have HSN := Lib.hid (LsAt.snoc (by omega) ho6 hrl HL3.out hr.out hg6 (fun k hk => Go.heap_alloc_old w5 _ hk) (by simp) hs6)
           have HA6 := Lib.hid ((HA.out.keep ((Below.refl _ _).alloc (Nat.le_refl _) (.cells (reC r).toArray 33))).grow hg6 fun k hk => (HO.out.below hk).1); go_roundg gk
           case rel => exact ⟨l ++ [t], j, hj.2, by omega, by rw [szL_append]; simp only [Re.szL]; omega, HC, HSN, HA6⟩
           case measure => omega
       · rw [if_neg h124] at hC; have HC := Lib.hid hC; have ht := ps_take_n g S i' d 124 wr HA.out.ps h124; clear hC h124; wkk; refine Calls.mono (ht) ?_; rintro _ w4 ⟨rfl, hb⟩; dsimp only; have HA := Lib.hid (HA.out.keep hb); have HL := Lib.hid (HL.out.keepB hb); clear ht hb; obtain ⟨rs, hrow, hz⟩ := HL.out.zp (g := g) (by have := HA.out.lt; omega); have hj := re_join 3 (by unfold I64; omega) (Z + 1) g _ rs l w4 hrow hz HA.out.bx.lt (by have := HA.out.lt; omega) (by omega); clear hrow hz HL; wkk; refine Calls.mono (hj) ?_; rintro _ wj ⟨rj, rfl, hxj, hbj⟩; dsimp only
         have HA := Lib.hid (HA.out.keep hbj); have hone := hxj.one; have HD := Lib.hid (HA.out.done hxj); have HM := Lib.hid HA.out.bx; clear hj hxj hbj; wkka (first | (refine store_box HM.out rj hone _ _ rfl rfl rfl ?_; dsimp only [Act.put])); refine bodyPost_ret (results_re rfl _ _ _ _ rfl (HM.out.set _)) rfl ?_; exact TPost.okI HC.out.symm ⟨⟨_, rfl, HD.out.1⟩, HD.out.2.1, HD.out.2.2⟩
open Go.RowKit Go.Lib
set_option maxRecDepth 100000 in
set_option maxHeartbeats 4000000 in
theorem ps_cat (g : Nat) (S : ByteArray) (f : Nat) (hS : S.size ≤ 512) (IH : ∀ f', f' < f → CT g S 75 .item f') : CT g S 70 (.cat []) f := by
 intro d i w hi hd h hn; obtain ⟨X0, hX0⟩ : ∃ X0, prs S.data.toList f (.cat []) d i = X0 := ⟨_, rfl⟩; rw [hX0] at hn ⊢; have HX0 := Lib.hid hX0; have HN := Lib.hid hn; clear hn hX0; have HA := Lib.hid (AX.start h); clear h; go_enter Tryd.func70, Tryd.ntmps70
 repeat' (go_not_at_region 1; first | go_values | go_skip | go_guarded | go_step | go_upon)
 generalize hZ : w.heap.size = Z at HA ⊢; refine gen_wd (fun W => AX w Z g S d i W) HA.out ?_; clear HA; rintro w1 hj; have HA := Lib.hid hj; clear hj hZ; wkk
 go_loopg [3] f (fun gk s3 wr => ∃ (l : List Re) (i' : Nat), i' ≤ S.size ∧ gk ≤ f ∧ Re.szL l ≤ 2 * i' ∧ Hid (prs S.data.toList gk (.cat l) d i' = X0) ∧ Hid (LsAt (Z + 1) wr s3 l) ∧ Hid (AX w Z g S d i' wr))
 case atStart => exact ⟨[], i, hi, Nat.le_refl _, Nat.zero_le _, HX0, Lib.hid (LsAt.nil _ _), HA⟩
 case round =>
   clear HX0 HA hi; obtain ⟨l, i', hi', hgf, hsl, HC, HL, HA⟩ := hrel
   cases gk with
   | zero => exact absurd (by rw [← HC.out, prs]) HN.out
   | succ gk =>
     have hC := HC.out; rw [prs, ba_len] at hC; clear HC
     by_cases hlt : i' < S.size
     · have hlt' : (i' : Int) < S.size := by omega
       have hC' : ∀ c, isC S.data.toList i' c ↔ bt S.data.toList i' = c := fun c => ⟨fun q => q.2, fun q => ⟨by rw [ba_len]; exact hlt, q⟩⟩
       by_cases h124 : isC S.data.toList i' 124
       · rw [if_neg (fun q => q.2.1 ((hC' 124).1 h124))] at hC; have HC := Lib.hid hC; have HI := Lib.hid h124; clear hC hC' h124 hlt; have q0 : ∀ nq : WB wr, nq.1.cell? ⟨g, 0, none⟩ = some (.string S) := fun nq => (HA.out.ps.keep nq.2).c0
         have q1 : ∀ nq : WB wr, nq.1.cell? ⟨g, 1, none⟩ = some (.int .i64 (i' : Int)) := fun nq => (HA.out.ps.keep nq.2).c1
         have k124 : ∀ n : WB wr, Calls Tryd.prog 74 #[.pointer (some ⟨g, 0, none⟩), .int .u8 124] n.1 (fun e w' => e = .returned (.bool true) ∧ Below n.1.heap.size n.1 w') := fun n => ps_is_y g S i' d 124 n.1 (HA.out.ps.keep n.2) HI.out
         skip
         wkk; refine wp_region_wb (by kernel_rfl) (by kernel_rfl) wr (Below.refl _ _) ?_
         repeat (go_big_quiet_step ((go_at_call 74; exact calls_wb (k124 _))))
         refine wpQuiet_nil ?_; rintro _ ⟨nr, rfl⟩; have HA := Lib.hid (HA.out.keep nr.2); have HL := Lib.hid (HL.out.keepB nr.2); clear q0 q1; clear k124; obtain ⟨rs, hrow, hz⟩ := HL.out.zp (g := g) (by have := HA.out.lt; omega); have hj := re_join 2 (by unfold I64; omega) (Z + 1) g _ rs l nr.1 hrow hz HA.out.bx.lt (by have := HA.out.lt; omega) (by omega); clear hrow hz HL; wkk; refine Calls.mono (hj) ?_; rintro _ wj ⟨rj, rfl, hxj, hbj⟩; dsimp only; have HA := Lib.hid (HA.out.keep hbj); have hone := hxj.one; have HD := Lib.hid (HA.out.done hxj); have HM := Lib.hid HA.out.bx
         clear hj hxj hbj; wkka (first | (refine store_box HM.out rj hone _ _ rfl rfl rfl ?_; dsimp only [Act.put])); refine bodyPost_ret (results_re rfl _ _ _ _ rfl (HM.out.set _)) rfl ?_; exact TPost.okI HC.out.symm ⟨⟨_, rfl, HD.out.1⟩, HD.out.2.1, HD.out.2.2⟩
       by_cases h41 : isC S.data.toList i' 41
       · rw [if_neg (fun q => q.2.2 ((hC' 41).1 h41))] at hC; have HC := Lib.hid hC; have HI := Lib.hid h124; have HJ := Lib.hid h41; clear hC hC' h124 h41 hlt; have q0 : ∀ nq : WB wr, nq.1.cell? ⟨g, 0, none⟩ = some (.string S) := fun nq => (HA.out.ps.keep nq.2).c0
         have q1 : ∀ nq : WB wr, nq.1.cell? ⟨g, 1, none⟩ = some (.int .i64 (i' : Int)) := fun nq => (HA.out.ps.keep nq.2).c1
         have k124 : ∀ n : WB wr, Calls Tryd.prog 74 #[.pointer (some ⟨g, 0, none⟩), .int .u8 124] n.1 (fun e w' => e = .returned (.bool false) ∧ Below n.1.heap.size n.1 w') := fun n => ps_is_n g S i' d 124 n.1 (HA.out.ps.keep n.2) HI.out
         have k41 : ∀ n : WB wr, Calls Tryd.prog 74 #[.pointer (some ⟨g, 0, none⟩), .int .u8 41] n.1 (fun e w' => e = .returned (.bool true) ∧ Below n.1.heap.size n.1 w') := fun n => ps_is_y g S i' d 41 n.1 (HA.out.ps.keep n.2) HJ.out
         wkk; refine wp_region_wb (by kernel_rfl) (by kernel_rfl) wr (Below.refl _ _) ?_
         repeat (go_big_quiet_step ((go_at_call 74; first|with_reducible exact calls_wb (k124 _)|with_reducible exact calls_wb (k41 _))))
         refine wpQuiet_nil ?_; rintro _ ⟨nr, rfl⟩; have HA := Lib.hid (HA.out.keep nr.2); have HL := Lib.hid (HL.out.keepB nr.2); clear q0 q1; clear k124 k41; obtain ⟨rs, hrow, hz⟩ := HL.out.zp (g := g) (by have := HA.out.lt; omega); have hj := re_join 2 (by unfold I64; omega) (Z + 1) g _ rs l nr.1 hrow hz HA.out.bx.lt (by have := HA.out.lt; omega) (by omega); clear hrow hz HL; wkk; refine Calls.mono (hj) ?_; rintro _ wj ⟨rj, rfl, hxj, hbj⟩; dsimp only; have HA := Lib.hid (HA.out.keep hbj); have hone := hxj.one; have HD := Lib.hid (HA.out.done hxj); have HM := Lib.hid HA.out.bx
         clear hj hxj hbj; wkka (first | (refine store_box HM.out rj hone _ _ rfl rfl rfl ?_; dsimp only [Act.put])); refine bodyPost_ret (results_re rfl _ _ _ _ rfl (HM.out.set _)) rfl ?_; exact TPost.okI HC.out.symm ⟨⟨_, rfl, HD.out.1⟩, HD.out.2.1, HD.out.2.2⟩
       · rw [if_pos ⟨hlt, fun q => h124 ((hC' 124).2 q), fun q => h41 ((hC' 41).2 q)⟩] at hC; have HI := Lib.hid h124; have HJ := Lib.hid h41; have hitem := fun W hp hne => IH gk (by omega) d i' W hi' hd hp hne
         have hin := prs_in (s := S.data.toList) gk .item d i' (by rw [ba_len]; exact hi'); have hsz := prs_sz (s := S.data.toList) gk .item d i' (by rw [ba_len]; exact hi'); clear hC' h124 h41 hlt; have q0 : ∀ nq : WB wr, nq.1.cell? ⟨g, 0, none⟩ = some (.string S) := fun nq => (HA.out.ps.keep nq.2).c0
         have q1 : ∀ nq : WB wr, nq.1.cell? ⟨g, 1, none⟩ = some (.int .i64 (i' : Int)) := fun nq => (HA.out.ps.keep nq.2).c1
         have k124 : ∀ n : WB wr, Calls Tryd.prog 74 #[.pointer (some ⟨g, 0, none⟩), .int .u8 124] n.1 (fun e w' => e = .returned (.bool false) ∧ Below n.1.heap.size n.1 w') := fun n => ps_is_n g S i' d 124 n.1 (HA.out.ps.keep n.2) HI.out
         have k41 : ∀ n : WB wr, Calls Tryd.prog 74 #[.pointer (some ⟨g, 0, none⟩), .int .u8 41] n.1 (fun e w' => e = .returned (.bool false) ∧ Below n.1.heap.size n.1 w') := fun n => ps_is_n g S i' d 41 n.1 (HA.out.ps.keep n.2) HJ.out
         wkk; refine wp_region_wb (by kernel_rfl) (by kernel_rfl) wr (Below.refl _ _) ?_
         repeat (go_big_quiet_step ((go_at_call 74; first|with_reducible exact calls_wb (k124 _)|with_reducible exact calls_wb (k41 _))))
         refine wpQuiet_nil ?_; rintro _ ⟨nr, rfl⟩; have HA := Lib.hid (HA.out.keep nr.2); have HL := Lib.hid (HL.out.keepB nr.2); clear q0 q1; clear k124 k41 HI HJ; wkk
         cases hX : prs S.data.toList gk .item d i' with
         | out => rw [hX] at hC; exact absurd hC.symm HN.out
         | bad e0 j =>
           have hc := hitem nr.1 HA.out.ps (by rw [hX]; intro e; cases e); rw [hX] at hc hC; have HC := Lib.hid hC.symm; refine Calls.mono hc ?_; rintro _ wy ⟨rfl, he⟩; exact ⟨rfl, TPost.badI HC.out ⟨rfl, HA.out.els.trans he⟩⟩
         | ok t j =>
           have hc := hitem nr.1 HA.out.ps (by rw [hX]; intro e; cases e); have hj := hin.okB hX; rw [ba_len] at hj; have hs0 := hsz _ _ hX; rw [hX] at hc hC; simp only [PR.bind, Tk.bound, Tk.least] at hC hs0 hj; have HC := Lib.hid hC; clear hitem hin hsz hX hC; refine Calls.mono (hc) ?_; rintro _ w5 ⟨⟨r, rfl, hx⟩, hp, he⟩; dsimp only; have hz4 := HA.out.bx.lt
           have hr : Hid (∀ q, (u3.ownBlock = some q ∨ q < Z + 1) → ReX (Z + 1) q w5 r t) := Lib.hid (fun q hq => by
             obtain ⟨rs0, ho0, _⟩ := HL.out; refine (hx.drop (p' := q) ?_).mono (by omega)
             rcases hq with hq | hq
             · have := (ho0.below hq).2; exact .inl this
             · exact .inl (by omega))
           have HA := Lib.hid (HA.out.go hp he); have HL := Lib.hid (HL.out.els he (by have := HA.out.lt; omega)); clear hc hp he hz4; obtain ⟨rs, hown, hrl, h3⟩ := HL.out; have hlen : rs.length ≤ 2000 := by have := szL_len l; omega
           have hone := ReX.one hx; have HXX := Lib.hid hx; have HL3 := Lib.hid h3; have HO := Lib.hid hown; have hwB : Z + 1 ≤ w5.heap.size := HA.out.bx.lt; clear h3; dsimp only [reV, reC]; wkka (first | (at_builtin; go_loud (refine app_two 80 w5.heap.size rfl r reC_length (reC_oneAll hone) Tryd.underlying31 info_re3 rfl rfl _ _ rfl rfl rfl rfl hown hwB (by omega) (by unfold maxLen; omega) ?_); intro v6 w6 ho6 hg6 hs6)); have HSN := Lib.hid (LsAt.snoc (by omega) ho6 hrl HL3.out hr.out hg6 (fun k hk => Go.heap_alloc_old w5 _ hk) (by simp) hs6)
           have HA6 := Lib.hid ((HA.out.keep ((Below.refl _ _).alloc (Nat.le_refl _) (.cells (reC r).toArray 33))).grow hg6 fun k hk => (HO.out.below hk).1); go_roundg gk
           case rel => exact ⟨l ++ [t], j, hj.2, by omega, by rw [szL_append]; simp only [Re.szL]; omega, HC, HSN, HA6⟩
           case measure => omega
     · have hlt' : ¬ (i' : Int) < S.size := by omega
       rw [if_neg (fun q => hlt q.1)] at hC; have HC := Lib.hid hC; clear hC hlt; have q0 : ∀ nq : WB wr, nq.1.cell? ⟨g, 0, none⟩ = some (.string S) := fun nq => (HA.out.ps.keep nq.2).c0
       have q1 : ∀ nq : WB wr, nq.1.cell? ⟨g, 1, none⟩ = some (.int .i64 (i' : Int)) := fun nq => (HA.out.ps.keep nq.2).c1
       skip
       skip
       wkk; refine wp_region_wb (by kernel_rfl) (by kernel_rfl) wr (Below.refl _ _) ?_
       repeat (go_big_quiet_step ((fail)))
       refine wpQuiet_nil ?_; rintro _ ⟨nr, rfl⟩; have HA := Lib.hid (HA.out.keep nr.2); have HL := Lib.hid (HL.out.keepB nr.2); clear q0 q1; obtain ⟨rs, hrow, hz⟩ := HL.out.zp (g := g) (by have := HA.out.lt; omega); have hj := re_join 2 (by unfold I64; omega) (Z + 1) g _ rs l nr.1 hrow hz HA.out.bx.lt (by have := HA.out.lt; omega) (by omega); clear hrow hz HL; wkk; refine Calls.mono (hj) ?_; rintro _ wj ⟨rj, rfl, hxj, hbj⟩; dsimp only; have HA := Lib.hid (HA.out.keep hbj); have hone := hxj.one; have HD := Lib.hid (HA.out.done hxj); have HM := Lib.hid HA.out.bx; clear hj hxj hbj
       wkka (first | (refine store_box HM.out rj hone _ _ rfl rfl rfl ?_; dsimp only [Act.put])); refine bodyPost_ret (results_re rfl _ _ _ _ rfl (HM.out.set _)) rfl ?_; exact TPost.okI HC.out.symm ⟨⟨_, rfl, HD.out.1⟩, HD.out.2.1, HD.out.2.2⟩
open Go.RowKit Go.Lib
theorem numR_le {s : List UInt8} {least i a j : Nat} (h : numR s least i = .ok a j) : a ≤ 20 := by
 unfold numR at h
 split at h
 · rename_i hd
   split at h
   · split at h
     · cases h
     · simp only [PR.ok.injEq] at h; omega
   · split at h
     · cases h
     · simp only [PR.ok.injEq] at h; have := hd.2; omega
 · cases h
/-- the part's box as well -/
structure IX (w : World) (Z g : Nat) (S : ByteArray) (d i b3 : Nat) (r : RN) (t : Re) (W : World) : Prop where
 ax : AX w Z g S d i W
 b : ReBox W b3 r
 x : ReX (Z + 1) b3 W r t
 lt : Z < b3
def repN (lo : Nat) (hi : Int) (q : Nat) : RN := ⟨4, (0, 0, 0, 0), lo, hi, .slice (some ⟨q, 0, none⟩) 1 1⟩
section
variable {w W W' : World} {Z g : Nat} {S : ByteArray} {d i b3 : Nat} {r : RN} {t : Re}
theorem IX.keep (h : IX w Z g S d i b3 r t W) (hb : Below W.heap.size W W') : IX w Z g S d i b3 r t W' := ⟨h.ax.keep hb, h.b.keep hb, h.x.keepB hb (Nat.le_refl _), h.lt⟩
theorem IX.go {j : Nat} (h : IX w Z g S d i b3 r t W) (hp : PsAt W' g S j d) (he : Else g W W') : IX w Z g S d j b3 r t W' :=
 ⟨h.ax.go hp he, he.row h.b (by have := h.lt; have := h.ax.lt; omega), h.x.els he (by have := h.ax.lt; omega), h.lt⟩
theorem AX.row (h : AX w Z g S d i W) {q : Nat} (hq : Z < q) (cs : Array Value) : AX w Z g S d i (W.setRow q cs) :=
 ⟨h.bx.other (by omega), h.ps.row (by have := h.lt; omega), h.els.rowNew (by have := h.sz; omega) _, h.lt, h.sz⟩
theorem repT_mk {lo : Nat} {hi : Int} (hn : ¬ (lo = 1 ∧ hi = 1)) (t : Re) : repT lo hi t = .mk 4 (0, 0, 0, 0) lo hi [t] := by unfold repT; rw [if_neg hn]
theorem IX.rep (h : IX w Z g S d i b3 r t W) (lo : Nat) (hi : Int) (hlo : lo ≤ 20) (hhi : -1 ≤ hi ∧ hi ≤ 20) (hn : ¬ (lo = 1 ∧ hi = 1)) :
   IX w Z g S d i b3 (repN lo hi W.heap.size) (repT lo hi t) ((W.alloc (.cells (reC r).toArray 33)).setRow b3 (reC (repN lo hi W.heap.size)).toArray) := by
 have hk := (Below.refl W.heap.size W).alloc (Nat.le_refl _) (.cells (reC r).toArray 33); have hb3 := h.b.lt; have hq : ((W.alloc (.cells (reC r).toArray 33)).setRow b3 (reC (repN lo hi W.heap.size)).toArray).heap[W.heap.size]? = some (.cells (reC r).toArray 33 (0, 0)) := by
   rw [setRow_other _ _ _ _ (by omega)]; exact Go.heap_alloc_new W _
 refine ⟨(h.ax.keep hk).row h.lt _, (h.b.keep hk).set _, ?_, h.lt⟩; rw [repT_mk hn]; have hx : ReX (Z + 1) b3 ((W.alloc (.cells (reC r).toArray 33)).setRow b3 (reC (repN lo hi W.heap.size)).toArray) r t :=
   h.x.keep (fun k _ hk' hne => by rw [setRow_other _ _ _ _ hne]; exact hk.block k hk') (by simp)
 refine .mk (repN lo hi W.heap.size) [t] [r] ⟨by show I64 4; unfold I64; omega, by show I64 (lo : Int); unfold I64; omega, by show I64 hi; unfold I64; omega⟩ (by show 1 ≤ _; omega) ?_ (.inr ⟨W.heap.size, 0, 1, 1, rfl, by have := h.ax.bx.lt; omega, by omega⟩) rfl (Zp.one hx).2; refine ⟨some ⟨W.heap.size, 0, none⟩, 1, rfl, Nat.le_refl _, by unfold maxLen; omega, rfl, .inr ⟨W.heap.size, 0, rfl, by simp, fun j hj => ?_⟩⟩; rw [Nat.zero_add, cell_of_row _ _ j _ _ _ hq]
 simp
end
set_option maxRecDepth 100000 in
set_option maxHeartbeats 8000000 in
theorem ps_item (g : Nat) (S : ByteArray) (f : Nat) (hS : S.size ≤ 512) (IH : CT g S 76 .atom f) : CT g S 75 .item (f + 1) := by
 intro d i w hi hd h hn; rw [prs] at hn ⊢; have hin := prs_in (s := S.data.toList) f .atom d i (by rw [ba_len]; exact hi); have hat := IH d i
 cases hX : prs S.data.toList f .atom d i with
 | out => rw [hX] at hn; exact absurd rfl hn
 | bad e0 j =>
   have hc := fun (W : World) (hp : PsAt W g S i d) => hat W hi hd hp (by rw [hX]; intro e; cases e)
   simp only [hX] at hc; clear hat hn hin hX; have HA := Lib.hid (AX.start h); clear h; go_enter Tryd.func75, Tryd.ntmps75
   repeat' (go_not_at_region 1; first | go_values | go_skip | go_guarded | go_step | go_upon)
   generalize hZ : w.heap.size = Z at HA ⊢; refine gen_wd (fun W => AX w Z g S d i W) HA.out ?_; clear HA; rintro w1 hj; have HA := Lib.hid hj; clear hj hZ; wkk; have hc := hc w1 HA.out.ps; refine Calls.mono hc ?_; rintro _ wy ⟨rfl, he⟩; exact ⟨rfl, TPost.badI rfl ⟨rfl, HA.out.els.trans he⟩⟩
 | ok t0 j0 =>
   have hc := fun (W : World) (hp : PsAt W g S i d) => hat W hi hd hp (by rw [hX]; intro e; cases e)
   simp only [hX] at hc; have hj := (hin.okB hX).2; rw [ba_len] at hj; rw [hX] at hn; simp only [PR.bind] at hn ⊢; obtain ⟨X0, hX0⟩ : ∃ X0, prs S.data.toList f (.itemL t0) d j0 = X0 := ⟨_, rfl⟩; rw [hX0] at hn ⊢; have HX0 := Lib.hid hX0; have HN := Lib.hid hn; clear hat hn hin hX hX0; have HA := Lib.hid (AX.start h); clear h; go_enter Tryd.func75, Tryd.ntmps75
   repeat' (go_not_at_region 1; first | go_values | go_skip | go_guarded | go_step | go_upon)
   generalize hZ : w.heap.size = Z at HA ⊢; refine gen_wd (fun W => AX w Z g S d i W) HA.out ?_; clear HA; rintro w1 hj; have HA := Lib.hid hj; clear hj hZ; wkk; have hc := hc w1 HA.out.ps; refine Calls.mono (hc) ?_; rintro _ w2 ⟨⟨r0, rfl, hx⟩, hp, he⟩; dsimp only; have hone := hx.one; have hzlt := HA.out.bx.lt; have HA := Lib.hid (HA.out.go hp he)
   have HI : Hid (IX w Z g S d j0 w2.heap.size r0 t0 (w2.alloc (.cells (reC r0).toArray 33))) := Lib.hid ⟨HA.out.keep ((Below.refl _ _).alloc (Nat.le_refl _) _), ReBox.new w2 r0, ((hx.mono hzlt).drop (.inr (Nat.le_refl _))).keepB ((Below.refl _ _).alloc (Nat.le_refl _) _) (Nat.le_refl _), HA.out.bx.lt⟩; clear hc hx hp he hzlt HA hi; wkka (first | (refine store_re (r := r0) hone _ _ rfl rfl rfl rfl ?_; dsimp only [Act.put])); generalize w2.heap.size = b3 at HI ⊢
   go_loopg [4] f (fun gk s4 wr => ∃ (t : Re) (r : RN) (i' : Nat), i' ≤ S.size ∧ Hid (prs S.data.toList gk (.itemL t) d i' = X0) ∧ Hid (IX w Z g S d i' b3 r t wr))
   case atStart => exact ⟨t0, r0, j0, hj, HX0, HI⟩
   case round =>
     clear HX0 HI hj hone; obtain ⟨t, r, i', hi', HC, HI⟩ := hrel
     cases gk with
     | zero => exact absurd (by rw [← HC.out, prs]) HN.out
     | succ gk =>
       have hC := HC.out; rw [prs] at hC; clear HC
       by_cases h42 : isC S.data.toList i' 42
       · rw [if_pos h42] at hC; have HC := Lib.hid hC; have hi1 : i' + 1 ≤ S.size := by have := h42.1; rw [ba_len] at this; omega
         have ht := ps_take_y g S i' d 42 (by omega) _ HI.out.ax.ps h42; wkk; refine Calls.mono (ht) ?_; rintro _ wu ⟨rfl, hp, he⟩; dsimp only; have HI := Lib.hid (HI.out.go hp he); clear ht hp he; clear hC h42; have HB3 := Lib.hid HI.out.b; have HB4 := Lib.hid (HI.out.b.keep ((Below.refl _ _).alloc (Nat.le_refl _) (.cells (reC r).toArray 33))); have HR := Lib.hid (HI.out.rep 0 (-1) (by omega) (by omega) (by omega))
         skip
         wkka (first | (with_reducible refine load_box HB3.out _ rfl rfl ?_; dsimp only [Act.put, reV, reC]) | (refine store_box HB4.out (repN 0 (-1) wu.heap.size) rfl _ _ rfl rfl rfl ?_; dsimp only [Act.put])); go_roundg gk
         case rel => exact ⟨_, _, (i' + 1), hi1, HC, HR⟩
         case measure => omega
       rw [if_neg h42] at hC
       by_cases h43 : isC S.data.toList i' 43
       · rw [if_pos h43] at hC; have HC := Lib.hid hC; have hi1 : i' + 1 ≤ S.size := by have := h43.1; rw [ba_len] at this; omega
         have ht := ps_take_n g S i' d 42 _ HI.out.ax.ps h42; wkk; refine Calls.mono (ht) ?_; rintro _ wt ⟨rfl, hb⟩; dsimp only; have HI := Lib.hid (HI.out.keep hb); clear ht hb; have ht := ps_take_y g S i' d 43 (by omega) _ HI.out.ax.ps h43; wkk; refine Calls.mono (ht) ?_; rintro _ wu ⟨rfl, hp, he⟩; dsimp only; have HI := Lib.hid (HI.out.go hp he); clear ht hp he; clear hC h43 h42; have HB3 := Lib.hid HI.out.b; have HB4 := Lib.hid (HI.out.b.keep ((Below.refl _ _).alloc (Nat.le_refl _) (.cells (reC r).toArray 33)))
         have HR := Lib.hid (HI.out.rep 1 (-1) (by omega) (by omega) (by omega))
         skip
         wkka (first | (with_reducible refine load_box HB3.out _ rfl rfl ?_; dsimp only [Act.put, reV, reC]) | (refine store_box HB4.out (repN 1 (-1) wu.heap.size) rfl _ _ rfl rfl rfl ?_; dsimp only [Act.put])); go_roundg gk
         case rel => exact ⟨_, _, (i' + 1), hi1, HC, HR⟩
         case measure => omega
       rw [if_neg h43] at hC
       by_cases h63 : isC S.data.toList i' 63
       · rw [if_pos h63] at hC; have HC := Lib.hid hC; have hi1 : i' + 1 ≤ S.size := by have := h63.1; rw [ba_len] at this; omega
         have ht := ps_take_n g S i' d 42 _ HI.out.ax.ps h42; wkk; refine Calls.mono (ht) ?_; rintro _ wt ⟨rfl, hb⟩; dsimp only; have HI := Lib.hid (HI.out.keep hb); clear ht hb; have ht := ps_take_n g S i' d 43 _ HI.out.ax.ps h43; wkk; refine Calls.mono (ht) ?_; rintro _ wt ⟨rfl, hb⟩; dsimp only; have HI := Lib.hid (HI.out.keep hb); clear ht hb; have ht := ps_take_y g S i' d 63 (by omega) _ HI.out.ax.ps h63; wkk; refine Calls.mono (ht) ?_; rintro _ wu ⟨rfl, hp, he⟩; dsimp only; have HI := Lib.hid (HI.out.go hp he); clear ht hp he; clear hC h43 h42 h63; have HB3 := Lib.hid HI.out.b
         have HB4 := Lib.hid (HI.out.b.keep ((Below.refl _ _).alloc (Nat.le_refl _) (.cells (reC r).toArray 33))); have HR := Lib.hid (HI.out.rep 0 1 (by omega) (by omega) (by omega))
         skip
         wkka (first | (with_reducible refine load_box HB3.out _ rfl rfl ?_; dsimp only [Act.put, reV, reC]) | (refine store_box HB4.out (repN 0 1 wu.heap.size) rfl _ _ rfl rfl rfl ?_; dsimp only [Act.put])); go_roundg gk
         case rel => exact ⟨_, _, (i' + 1), hi1, HC, HR⟩
         case measure => omega
       rw [if_neg h63] at hC
       by_cases h123 : isC S.data.toList i' 123
       · rw [if_pos h123] at hC; have hi1 : i' + 1 ≤ S.size := by have := h123.1; rw [ba_len] at this; omega
         have ht := ps_take_n g S i' d 42 _ HI.out.ax.ps h42; wkk; refine Calls.mono (ht) ?_; rintro _ wt ⟨rfl, hb⟩; dsimp only; have HI := Lib.hid (HI.out.keep hb); clear ht hb; have ht := ps_take_n g S i' d 43 _ HI.out.ax.ps h43; wkk; refine Calls.mono (ht) ?_; rintro _ wt ⟨rfl, hb⟩; dsimp only; have HI := Lib.hid (HI.out.keep hb); clear ht hb; have ht := ps_take_n g S i' d 63 _ HI.out.ax.ps h63; wkk; refine Calls.mono (ht) ?_; rintro _ wt ⟨rfl, hb⟩; dsimp only; have HI := Lib.hid (HI.out.keep hb); clear ht hb; have ht := ps_take_y g S i' d 123 (by omega) _ HI.out.ax.ps h123; wkk
         refine Calls.mono (ht) ?_; rintro _ wu ⟨rfl, hp, he⟩; dsimp only; have HI := Lib.hid (HI.out.go hp he); clear ht hp he; clear h42 h43 h63 h123; unfold bndR at hC; have hnum := ps_num g S (i' + 1) d 0 hS hi1 wu HI.out.ax.ps; have hnin := numR_in (s := S.data.toList) (i := i' + 1) (by rw [ba_len]; exact hi1) 0; wkk
         cases hN : numR S.data.toList 0 (i' + 1) with
         | out => exact absurd hN numR_out
         | bad e0 j =>
           rw [hN] at hnum hC; have HC := Lib.hid hC.symm; clear hC; refine Calls.mono hnum ?_; rintro _ wm ⟨rfl, he⟩; exact ⟨rfl, TPost.badI HC.out ⟨rfl, HI.out.ax.els.trans he⟩⟩
         | ok lo j =>
           have hlo := numR_le hN; have hj := (hnin.okB hN).2; rw [ba_len] at hj; rw [hN] at hnum hC; simp only [PR.bind] at hC; clear hN hnin; refine Calls.mono (hnum) ?_; rintro _ wn ⟨rfl, hp, he⟩; dsimp only; have HI := Lib.hid (HI.out.go hp he); clear hnum hp he hi1
           by_cases h44 : isC S.data.toList j 44
           · rw [if_pos h44] at hC; have hj1 : j + 1 ≤ S.size := by have := h44.1; rw [ba_len] at this; omega
             have ht := ps_take_y g S j d 44 (by omega) wn HI.out.ax.ps h44; clear h44; wkk; refine Calls.mono (ht) ?_; rintro _ wt ⟨rfl, hp, he⟩; dsimp only; have HI := Lib.hid (HI.out.go hp he); clear ht hp he hj
             by_cases h125 : isC S.data.toList (j + 1) 125
             · rw [if_pos h125] at hC; dsimp only at hC; have hk := ps_is_y g S (j + 1) d 125 wt HI.out.ax.ps h125; wkk; refine Calls.mono (hk) ?_; rintro _ wk ⟨rfl, hb⟩; dsimp only; have HI := Lib.hid (HI.out.keep hb); clear hk hb
               by_cases h125 : isC S.data.toList (j + 1) 125
               · rw [if_pos h125] at hC; have HC := Lib.hid hC; have hm := ps_must_y g S (j + 1) d 125 (by omega) _ HI.out.ax.ps h125; have hk1 : (j + 1) + 1 ≤ S.size := by have := h125.1; rw [ba_len] at this; omega
                 clear hC h125; wkk; refine Calls.mono (hm) ?_; rintro _ wm ⟨rfl, hp, he⟩; dsimp only; have HI := Lib.hid (HI.out.go hp he); clear hm hp he
                 by_cases h1 : ((lo : Nat) : Int) = 1
                 · by_cases h2 : ((-1) : Int) = 1
                   · have hq1 : ((((lo : Nat) : Int)) != 1) = false := by rw [h1]; rfl
                     have hq2 : ((((-1) : Int)) != 1) = false := by rw [h2]; rfl
                     have HT : Hid (repT lo (-1) t = t) := Lib.hid (by unfold repT; rw [if_pos ⟨by omega, h2⟩]); rw [HT.out] at HC; clear h1 h2; wkk; go_roundg gk
                     case rel => exact ⟨_, _, ((j + 1) + 1), hk1, HC, HI⟩
                     case measure => omega
                   · have hq1 : ((((lo : Nat) : Int)) != 1) = false := by rw [h1]; rfl
                     have hq2 : ((((-1) : Int)) != 1) = true := bne_iff_ne.2 h2; have HB3 := Lib.hid HI.out.b; have HB4 := Lib.hid (HI.out.b.keep ((Below.refl _ _).alloc (Nat.le_refl _) (.cells (reC r).toArray 33))); have HR := Lib.hid (HI.out.rep lo (-1) (by omega) (by omega) (by omega)); clear h1 h2; wkka (first | (with_reducible refine load_box HB3.out _ rfl rfl ?_; dsimp only [Act.put, reV, reC]) | (refine store_box HB4.out (repN lo (-1) wm.heap.size) rfl _ _ rfl rfl rfl ?_; dsimp only [Act.put])); go_roundg gk
                     case rel => exact ⟨_, _, ((j + 1) + 1), hk1, HC, HR⟩
                     case measure => omega
                 · have hq1 : ((((lo : Nat) : Int)) != 1) = true := bne_iff_ne.2 h1; have HB3 := Lib.hid HI.out.b; have HB4 := Lib.hid (HI.out.b.keep ((Below.refl _ _).alloc (Nat.le_refl _) (.cells (reC r).toArray 33))); have HR := Lib.hid (HI.out.rep lo (-1) (by omega) (by omega) (by omega)); clear h1; wkka (first | (with_reducible refine load_box HB3.out _ rfl rfl ?_; dsimp only [Act.put, reV, reC]) | (refine store_box HB4.out (repN lo (-1) wm.heap.size) rfl _ _ rfl rfl rfl ?_; dsimp only [Act.put])); go_roundg gk
                   case rel => exact ⟨_, _, ((j + 1) + 1), hk1, HC, HR⟩
                   case measure => omega
               · rw [if_neg h125] at hC; have HC := Lib.hid hC.symm; have hm := ps_must_n g S (j + 1) d 125 _ HI.out.ax.ps h125; clear hC h125; wkk; refine Calls.mono hm ?_; rintro _ wm ⟨rfl, he⟩; exact ⟨rfl, TPost.badI HC.out ⟨rfl, HI.out.ax.els.trans he⟩⟩
             · rw [if_neg h125] at hC; have hk := ps_is_n g S (j + 1) d 125 wt HI.out.ax.ps h125; clear h125; wkk; refine Calls.mono (hk) ?_; rintro _ wk ⟨rfl, hb⟩; dsimp only; have HI := Lib.hid (HI.out.keep hb); clear hk hb; have hnum := ps_num g S (j + 1) d lo hS hj1 wk HI.out.ax.ps; have hnin := numR_in (s := S.data.toList) (i := j + 1) (by rw [ba_len]; exact hj1) lo; wkk
               cases hN : numR S.data.toList lo (j + 1) with
               | out => exact absurd hN numR_out
               | bad e0 k =>
                 rw [hN] at hnum hC; have HC := Lib.hid hC.symm; clear hC; refine Calls.mono hnum ?_; rintro _ wm ⟨rfl, he⟩; exact ⟨rfl, TPost.badI HC.out ⟨rfl, HI.out.ax.els.trans he⟩⟩
               | ok hi2 k =>
                 have hhi := numR_le hN; have hk := (hnin.okB hN).2; rw [ba_len] at hk; rw [hN] at hnum hC; dsimp only at hC; clear hN hnin hj1; refine Calls.mono (hnum) ?_; rintro _ wq ⟨rfl, hp, he⟩; dsimp only; have HI := Lib.hid (HI.out.go hp he); clear hnum hp he
                 by_cases h125 : isC S.data.toList k 125
                 · rw [if_pos h125] at hC; have HC := Lib.hid hC; have hm := ps_must_y g S k d 125 (by omega) _ HI.out.ax.ps h125; have hk1 : k + 1 ≤ S.size := by have := h125.1; rw [ba_len] at this; omega
                   clear hC h125; wkk; refine Calls.mono (hm) ?_; rintro _ wm ⟨rfl, hp, he⟩; dsimp only; have HI := Lib.hid (HI.out.go hp he); clear hm hp he
                   by_cases h1 : ((lo : Nat) : Int) = 1
                   · by_cases h2 : ((hi2 : Int) : Int) = 1
                     · have hq1 : ((((lo : Nat) : Int)) != 1) = false := by rw [h1]; rfl
                       have hq2 : ((((hi2 : Int) : Int)) != 1) = false := by rw [h2]; rfl
                       have HT : Hid (repT lo (hi2 : Int) t = t) := Lib.hid (by unfold repT; rw [if_pos ⟨by omega, h2⟩]); rw [HT.out] at HC; clear h1 h2; wkk; go_roundg gk
                       case rel => exact ⟨_, _, (k + 1), hk1, HC, HI⟩
                       case measure => omega
                     · have hq1 : ((((lo : Nat) : Int)) != 1) = false := by rw [h1]; rfl
                       have hq2 : ((((hi2 : Int) : Int)) != 1) = true := bne_iff_ne.2 h2; have HB3 := Lib.hid HI.out.b; have HB4 := Lib.hid (HI.out.b.keep ((Below.refl _ _).alloc (Nat.le_refl _) (.cells (reC r).toArray 33))); have HR := Lib.hid (HI.out.rep lo (hi2 : Int) (by omega) (by omega) (by omega)); clear h1 h2; wkka (first | (with_reducible refine load_box HB3.out _ rfl rfl ?_; dsimp only [Act.put, reV, reC]) | (refine store_box HB4.out (repN lo (hi2 : Int) wm.heap.size) rfl _ _ rfl rfl rfl ?_; dsimp only [Act.put])); go_roundg gk
                       case rel => exact ⟨_, _, (k + 1), hk1, HC, HR⟩
                       case measure => omega
                   · have hq1 : ((((lo : Nat) : Int)) != 1) = true := bne_iff_ne.2 h1; have HB3 := Lib.hid HI.out.b; have HB4 := Lib.hid (HI.out.b.keep ((Below.refl _ _).alloc (Nat.le_refl _) (.cells (reC r).toArray 33))); have HR := Lib.hid (HI.out.rep lo (hi2 : Int) (by omega) (by omega) (by omega)); clear h1; wkka (first | (with_reducible refine load_box HB3.out _ rfl rfl ?_; dsimp only [Act.put, reV, reC]) | (refine store_box HB4.out (repN lo (hi2 : Int) wm.heap.size) rfl _ _ rfl rfl rfl ?_; dsimp only [Act.put])); go_roundg gk
                     case rel => exact ⟨_, _, (k + 1), hk1, HC, HR⟩
                     case measure => omega
                 · rw [if_neg h125] at hC; have HC := Lib.hid hC.symm; have hm := ps_must_n g S k d 125 _ HI.out.ax.ps h125; clear hC h125; wkk; refine Calls.mono hm ?_; rintro _ wm ⟨rfl, he⟩; exact ⟨rfl, TPost.badI HC.out ⟨rfl, HI.out.ax.els.trans he⟩⟩
           · rw [if_neg h44] at hC; dsimp only at hC; have ht := ps_take_n g S j d 44 wn HI.out.ax.ps h44; clear h44; wkk; refine Calls.mono (ht) ?_; rintro _ wt ⟨rfl, hb⟩; dsimp only; have HI := Lib.hid (HI.out.keep hb); clear ht hb
             by_cases h125 : isC S.data.toList j 125
             · rw [if_pos h125] at hC; have HC := Lib.hid hC; have hm := ps_must_y g S j d 125 (by omega) _ HI.out.ax.ps h125; have hk1 : j + 1 ≤ S.size := by have := h125.1; rw [ba_len] at this; omega
               clear hC h125; wkk; refine Calls.mono (hm) ?_; rintro _ wm ⟨rfl, hp, he⟩; dsimp only; have HI := Lib.hid (HI.out.go hp he); clear hm hp he
               by_cases h1 : ((lo : Nat) : Int) = 1
               · have hq1 : ((((lo : Nat) : Int)) != 1) = false := by rw [h1]; rfl
                 have HT : Hid (repT lo (lo : Int) t = t) := Lib.hid (by unfold repT; rw [if_pos ⟨by omega, h1⟩]); rw [HT.out] at HC; clear h1; wkk; go_roundg gk
                 case rel => exact ⟨_, _, (j + 1), hk1, HC, HI⟩
                 case measure => omega
               · have hq1 : ((((lo : Nat) : Int)) != 1) = true := bne_iff_ne.2 h1; have HB3 := Lib.hid HI.out.b; have HB4 := Lib.hid (HI.out.b.keep ((Below.refl _ _).alloc (Nat.le_refl _) (.cells (reC r).toArray 33))); have HR := Lib.hid (HI.out.rep lo (lo : Int) (by omega) (by omega) (by omega)); clear h1; wkka (first | (with_reducible refine load_box HB3.out _ rfl rfl ?_; dsimp only [Act.put, reV, reC]) | (refine store_box HB4.out (repN lo (lo : Int) wm.heap.size) rfl _ _ rfl rfl rfl ?_; dsimp only [Act.put])); go_roundg gk
                 case rel => exact ⟨_, _, (j + 1), hk1, HC, HR⟩
                 case measure => omega
             · rw [if_neg h125] at hC; have HC := Lib.hid hC.symm; have hm := ps_must_n g S j d 125 _ HI.out.ax.ps h125; clear hC h125; wkk; refine Calls.mono hm ?_; rintro _ wm ⟨rfl, he⟩; exact ⟨rfl, TPost.badI HC.out ⟨rfl, HI.out.ax.els.trans he⟩⟩
       · rw [if_neg h123] at hC; have HC := Lib.hid hC; have ht := ps_take_n g S i' d 42 _ HI.out.ax.ps h42; wkk; refine Calls.mono (ht) ?_; rintro _ wt ⟨rfl, hb⟩; dsimp only; have HI := Lib.hid (HI.out.keep hb); clear ht hb; have ht := ps_take_n g S i' d 43 _ HI.out.ax.ps h43; wkk; refine Calls.mono (ht) ?_; rintro _ wt ⟨rfl, hb⟩; dsimp only; have HI := Lib.hid (HI.out.keep hb); clear ht hb; have ht := ps_take_n g S i' d 63 _ HI.out.ax.ps h63; wkk; refine Calls.mono (ht) ?_; rintro _ wt ⟨rfl, hb⟩; dsimp only; have HI := Lib.hid (HI.out.keep hb); clear ht hb
         have ht := ps_take_n g S i' d 123 _ HI.out.ax.ps h123; wkk; refine Calls.mono (ht) ?_; rintro _ wt ⟨rfl, hb⟩; dsimp only; have HI := Lib.hid (HI.out.keep hb); clear ht hb; clear hC h42 h43 h63 h123; have HB3 := Lib.hid HI.out.b; have HM := Lib.hid HI.out.ax.bx; have HD := Lib.hid (HI.out.ax.done (HI.out.x.drop (p' := g) (.inl (by have := HI.out.ax.lt; omega)))); have hone := HI.out.x.one; wkka (first | (with_reducible refine load_box HB3.out _ rfl rfl ?_; dsimp only [Act.put]) | (refine store_box HM.out r hone _ _ rfl rfl rfl ?_; dsimp only [Act.put]))
         refine bodyPost_ret (results_re rfl _ _ _ _ rfl (HM.out.set _)) rfl ?_; exact TPost.okI HC.out.symm ⟨⟨_, rfl, HD.out.1⟩, HD.out.2.1, HD.out.2.2⟩
open Go.RowKit Go.Lib
theorem wp_region_anyP {P : Program} {id : Nat} {Q : Exit → Act → World → Prop} {a : Act} {w : World} {ops : Array Oper} (hm : P.follows .mixedOrders = true) (C : World → Prop)
   (h : wpAnyC P .any ops (CG C) Q ops.size (Array.replicate ops.size false) a w.drew) : (Code.region id ops true).wp P Q a w :=
 wp_region_any hm (wpAnyC.any _ _ _ _ h)
theorem genCp {P : Program} {md : Region.Mode} {ops : Array Oper} {C : World → Prop} {Q : Exit → Act → World → Prop} {fuel : Nat} {listed : Array Bool} {a : Act} {w : World} (F : World → Prop) (hF : F w) (h : ∀ w', F w' → wpAnyC P md ops C Q fuel listed a w') : wpAnyC P md ops C Q fuel listed a w := h w hF
theorem AX.setI {w W : World} {Z g : Nat} {S : ByteArray} {d i : Nat} (h : AX w Z g S d i W) (j : Nat) : AX w Z g S d j (W.setCell ⟨g, 1, none⟩ (.int .i64 (j : Int))) := h.go (h.ps.set1 j) ((Else.refl g W).setCell _ _)
theorem AX.setD {w W : World} {Z g : Nat} {S : ByteArray} {d i : Nat} (h : AX w Z g S d i W) (j : Nat) : AX w Z g S j i (W.setCell ⟨g, 2, none⟩ (.int .i64 (j : Int))) := h.go (h.ps.set2 j) ((Else.refl g W).setCell _ _)
set_option maxRecDepth 100000 in
set_option maxHeartbeats 8000000 in
theorem ps_atom (g : Nat) (S : ByteArray) (f : Nat) (hS : S.size ≤ 512) (IH : CT g S 63 .alt f) : CT g S 76 .atom (f + 1) := by
 intro d i w hi hd h hn; obtain ⟨X, hX⟩ : ∃ X, prs S.data.toList (f + 1) .atom d i = X := ⟨_, rfl⟩; rw [hX] at hn ⊢; rw [prs, ba_len] at hX
 by_cases h40 : isC S.data.toList i 40
 · rw [if_pos h40] at hX; have hi1 : i + 1 ≤ S.size := by have := h40.1; rw [ba_len] at this; omega
   by_cases hd30 : 30 ≤ d
   · rw [if_pos hd30] at hX; have HC := Lib.hid hX.symm; have hd' : (d : Int) ≥ 30 := by omega
     clear hX hn hi hi1; have HA := Lib.hid (AX.start h); clear h; go_enter Tryd.func76, Tryd.ntmps76
     repeat' (go_not_at_region 1; first | go_values | go_skip | go_guarded | go_step | go_upon)
     generalize hZ : w.heap.size = Z at HA ⊢; refine gen_wd (fun W => AX w Z g S d i W) HA.out ?_; clear HA; rintro w1 hj; have HA := Lib.hid hj; clear hj hZ; wkk; have ht := ps_is_y g S i d 40 _ HA.out.ps h40; wkk; refine Calls.mono (ht) ?_; rintro _ wt ⟨rfl, hb⟩; dsimp only; have HA := Lib.hid (HA.out.keep hb); clear ht hb; have c1 := HA.out.ps.c1; have c2 := HA.out.ps.c2; clear hd30 hd; wkk; exact ⟨rfl, TPost.badI HC.out ⟨rfl, HA.out.els⟩⟩
   · rw [if_neg hd30] at hX; have hd' : ¬ (d : Int) ≥ 30 := by omega
     have hw1 : IntKind.i64.wrap ((i : Int) + 1) = ((i + 1 : Nat) : Int) := by rw [wi64 (by unfold I64; omega)]; omega
     have hw2 : IntKind.i64.wrap ((d : Int) + 1) = ((d + 1 : Nat) : Int) := by rw [wi64 (by unfold I64; omega)]; omega
     have hw3 : IntKind.i64.wrap (((d + 1 : Nat) : Int) - 1) = (d : Int) := by rw [wi64 (by unfold I64; omega)]; omega
     have hcall := IH (d + 1) (i + 1); have hd1 : d + 1 ≤ 30 := by omega
     have hin := prs_in (s := S.data.toList) f .alt (d + 1) (i + 1) (by rw [ba_len]; exact hi1); obtain ⟨i1, hi1e⟩ : ∃ i1, i + 1 = i1 := ⟨_, rfl⟩; obtain ⟨d1, hd1e⟩ : ∃ d1, d + 1 = d1 := ⟨_, rfl⟩; rw [hi1e] at hw1 hcall hX hi1 hin; rw [hd1e] at hw2 hw3 hcall hX hd1 hin; clear hd30 hd hi hi1e hd1e; have HA := Lib.hid (AX.start h); clear h; go_enter Tryd.func76, Tryd.ntmps76
     repeat' (go_not_at_region 1; first | go_values | go_skip | go_guarded | go_step | go_upon)
     generalize hZ : w.heap.size = Z at HA ⊢; refine gen_wd (fun W => AX w Z g S d i W) HA.out ?_; clear HA; rintro w1 hj; have HA := Lib.hid hj; clear hj hZ; wkk; have ht := ps_is_y g S i d 40 _ HA.out.ps h40; wkk; refine Calls.mono (ht) ?_; rintro _ wt ⟨rfl, hb⟩; dsimp only; have HA := Lib.hid (HA.out.keep hb); clear ht hb; have c1 := HA.out.ps.c1; have c2 := HA.out.ps.c2; have f1 := HA.out.ps.free 1; have f2 := HA.out.ps.free 2; have HB := Lib.hid ((HA.out.setI i1).setD d1); have hc := hcall _ hi1 hd1 HB.out.ps; clear h40; wkk; clear c1 c2 f1 f2 HA hcall hw1 hw2
     cases hY : prs S.data.toList f .alt d1 i1 with
     | out => rw [hY] at hX; exact absurd hX.symm hn
     | bad e0 j =>
       have hc := hc (by rw [hY]; intro e; cases e); rw [hY] at hc hX; have HC := Lib.hid hX.symm; refine Calls.mono hc ?_; rintro _ wy ⟨rfl, he⟩; exact ⟨rfl, TPost.badI HC.out ⟨rfl, HB.out.els.trans he⟩⟩
     | ok t j =>
       have hc := hc (by rw [hY]; intro e; cases e); have hj := (hin.okB hY).2; rw [ba_len] at hj; rw [hY] at hc hX; simp only [PR.bind] at hX; clear hY hin hn hi1 hd1; refine Calls.mono (hc) ?_; rintro _ w2 ⟨⟨r, rfl, hx⟩, hp, he⟩; dsimp only; have hone := hx.one; have hzlt := HB.out.bx.lt; have HA := Lib.hid (HB.out.go hp he); have HR := Lib.hid ((hx.mono hzlt).keepB ((Below.refl _ w2).alloc (Nat.le_refl _) (.cells (reC r).toArray 33)) (Nat.le_refl _)); have HR3 : Hid (ReX (Z + 1) w2.heap.size w2 r t) := Lib.hid ((hx.mono hzlt).drop (.inr (Nat.le_refl _)))
       have HA := Lib.hid (HA.out.keep ((Below.refl _ w2).alloc (Nat.le_refl _) (.cells (reC r).toArray 33))); have HB3 := Lib.hid (ReBox.new w2 r); have hz3 : Z < w2.heap.size ∧ g < w2.heap.size := ⟨Nat.lt_of_lt_of_le hzlt he.size, hp.lt⟩; clear hc hx hp he hzlt HB HR3; wkka (first | (refine store_re (r := r) hone _ _ rfl rfl rfl rfl ?_; dsimp only [Act.put])); generalize w2.alloc (.cells (reC r).toArray 33) = w3 at HA HB3 HR ⊢; generalize w2.heap.size = b3 at HB3 hz3 ⊢; have HB3 := Lib.hid HB3.out
       by_cases h41 : isC S.data.toList j 41
       · rw [if_pos h41] at hX; have HC := Lib.hid hX.symm; have hm := ps_must_y g S j d1 41 (by omega) w3 HA.out.ps h41; clear hX h41; refine Calls.mono (hm) ?_; rintro _ w4 ⟨rfl, hp, he⟩; dsimp only; have HB3 := Lib.hid (HB3.out.els he (by omega)); have HR := Lib.hid (HR.out.els he (by have := HA.out.lt; omega)); have HA := Lib.hid (HA.out.go hp he); clear hm hp he; have c2 := HA.out.ps.c2; have f2 := HA.out.ps.free 2; have HB3 := Lib.hid (show ReBox (w4.setCell ⟨g, 2, none⟩ (.int .i64 (d : Int))) b3 r from HB3.out.cellOther (by omega))
         have HR := Lib.hid (HR.out.els ((Else.refl g w4).setCell 2 (.int .i64 (d : Int))) (by have := HA.out.lt; omega)); have HA := Lib.hid (HA.out.setD d); have HD := Lib.hid (HA.out.done HR.out); have HM := Lib.hid HA.out.bx; wkka (first | (with_reducible refine load_box HB3.out _ rfl rfl ?_; dsimp only [Act.put, reV, reC]) | (refine store_box HM.out r hone _ _ rfl rfl rfl ?_; dsimp only [Act.put])); refine bodyPost_ret (results_re rfl _ _ _ _ rfl (HM.out.set _)) rfl ?_; exact TPost.okI HC.out ⟨⟨_, rfl, HD.out.1⟩, HD.out.2.1, HD.out.2.2⟩
       · rw [if_neg h41] at hX; have HC := Lib.hid hX.symm; have hm := ps_must_n g S j d1 41 w3 HA.out.ps h41; clear hX h41; refine Calls.mono hm ?_; rintro _ w4 ⟨rfl, he⟩; exact ⟨rfl, TPost.badI HC.out ⟨rfl, HA.out.els.trans he⟩⟩
 rw [if_neg h40] at hX
 by_cases h91 : isC S.data.toList i 91
 · rw [if_pos h91] at hX; have hi1 : i + 1 ≤ S.size := by have := h91.1; rw [ba_len] at this; omega
   have hcall := fun W hp => ps_class g S f (i + 1) d hS hi1 (by rw [hX]; exact hn) W hp
   rw [hX] at hcall; clear hX hi1; have HA := Lib.hid (AX.start h); clear h; go_enter Tryd.func76, Tryd.ntmps76
   repeat' (go_not_at_region 1; first | go_values | go_skip | go_guarded | go_step | go_upon)
   generalize hZ : w.heap.size = Z at HA ⊢; refine gen_wd (fun W => AX w Z g S d i W) HA.out ?_; clear HA; rintro w1 hj; have HA := Lib.hid hj; clear hj hZ; wkk; have ht := ps_is_n g S i d 40 _ HA.out.ps h40; wkk; refine Calls.mono (ht) ?_; rintro _ wt ⟨rfl, hb⟩; dsimp only; have HA := Lib.hid (HA.out.keep hb); clear ht hb; have ht := ps_take_y g S i d 91 (by omega) _ HA.out.ps h91; wkk; refine Calls.mono (ht) ?_; rintro _ wu ⟨rfl, hp, he⟩; dsimp only; have HA := Lib.hid (HA.out.go hp he); clear ht hp he; clear h40 h91; have hc := hcall _ HA.out.ps; clear hcall; wkk
   cases X with
   | out => exact absurd rfl hn
   | bad e0 j =>
     refine Calls.mono hc ?_; rintro _ wy ⟨rfl, he⟩; exact ⟨rfl, TPost.badI rfl ⟨rfl, HA.out.els.trans he⟩⟩
   | ok t j =>
     have HC : Hid (PR.ok t j = PR.ok t j) := Lib.hid rfl; refine Calls.mono (hc) ?_; rintro _ w2 ⟨⟨r, rfl, hx⟩, hp, he⟩; dsimp only; have hone := hx.one; have hx2 := hx.mono HA.out.bx.lt; have HA := Lib.hid (HA.out.go hp he); clear hc hp he hx hn hi; have HD := Lib.hid (HA.out.done hx2); have HM := Lib.hid HA.out.bx; wkka (first | (refine store_box HM.out r hone _ _ rfl rfl rfl ?_; dsimp only [Act.put])); refine bodyPost_ret (results_re rfl _ _ _ _ rfl (HM.out.set _)) rfl ?_; exact TPost.okI HC.out ⟨⟨_, rfl, HD.out.1⟩, HD.out.2.1, HD.out.2.2⟩
 rw [if_neg h91] at hX
 by_cases h46 : isC S.data.toList i 46
 · rw [if_pos h46] at hX; have HC := Lib.hid hX.symm; clear hX; have HA := Lib.hid (AX.start h); clear h; go_enter Tryd.func76, Tryd.ntmps76
   repeat' (go_not_at_region 1; first | go_values | go_skip | go_guarded | go_step | go_upon)
   generalize hZ : w.heap.size = Z at HA ⊢; refine gen_wd (fun W => AX w Z g S d i W) HA.out ?_; clear HA; rintro w1 hj; have HA := Lib.hid hj; clear hj hZ; wkk; have ht := ps_is_n g S i d 40 _ HA.out.ps h40; wkk; refine Calls.mono (ht) ?_; rintro _ wt ⟨rfl, hb⟩; dsimp only; have HA := Lib.hid (HA.out.keep hb); clear ht hb; have ht := ps_take_n g S i d 91 _ HA.out.ps h91; wkk; refine Calls.mono (ht) ?_; rintro _ wt ⟨rfl, hb⟩; dsimp only; have HA := Lib.hid (HA.out.keep hb); clear ht hb; have ht := ps_take_y g S i d 46 (by omega) _ HA.out.ps h46; wkk; refine Calls.mono (ht) ?_
   rintro _ wu ⟨rfl, hp, he⟩; dsimp only; have HA := Lib.hid (HA.out.go hp he); clear ht hp he; clear h40 h91 h46 hn hi; wkk; refine Calls.mono ((k_ln _)) ?_; rintro _ w2 ⟨rfl, hb⟩; dsimp only; have HA := Lib.hid (HA.out.keep hb); clear hb; wkk; refine Calls.mono ((k_not _ _)) ?_; rintro _ w3 ⟨rfl, hb⟩; dsimp only; have HA := Lib.hid (HA.out.keep hb); clear hb; have HD := Lib.hid (HA.out.done (ReX.setT _ _ _ (notB (oneB 10)))); have HM := Lib.hid HA.out.bx; wkka (first | (refine store_box HM.out (setN (notB (oneB 10))) rfl _ _ rfl rfl rfl ?_; dsimp only [Act.put]))
   refine bodyPost_ret (results_re rfl _ _ _ _ rfl (HM.out.set _)) rfl ?_; exact TPost.okI HC.out ⟨⟨_, rfl, HD.out.1⟩, HD.out.2.1, HD.out.2.2⟩
 rw [if_neg h46] at hX
 by_cases h92 : isC S.data.toList i 92
 · rw [if_pos h92] at hX; have hi1 : i + 1 ≤ S.size := by have := h92.1; rw [ba_len] at this; omega
   have hk := fun W hp => ps_kind g S (i + 1) d (by omega) W hp
   have hesc := fun W hp => ps_escape g S (i + 1) d hS hi1 W hp
   have HA := Lib.hid (AX.start h); clear h; go_enter Tryd.func76, Tryd.ntmps76
   repeat' (go_not_at_region 1; first | go_values | go_skip | go_guarded | go_step | go_upon)
   generalize hZ : w.heap.size = Z at HA ⊢; refine gen_wd (fun W => AX w Z g S d i W) HA.out ?_; clear HA; rintro w1 hj; have HA := Lib.hid hj; clear hj hZ; wkk; have ht := ps_is_n g S i d 40 _ HA.out.ps h40; wkk; refine Calls.mono (ht) ?_; rintro _ wt ⟨rfl, hb⟩; dsimp only; have HA := Lib.hid (HA.out.keep hb); clear ht hb; have ht := ps_take_n g S i d 91 _ HA.out.ps h91; wkk; refine Calls.mono (ht) ?_; rintro _ wt ⟨rfl, hb⟩; dsimp only; have HA := Lib.hid (HA.out.keep hb); clear ht hb; have ht := ps_take_n g S i d 46 _ HA.out.ps h46; wkk; refine Calls.mono (ht) ?_; rintro _ wt ⟨rfl, hb⟩
   dsimp only; have HA := Lib.hid (HA.out.keep hb); clear ht hb; have ht := ps_take_y g S i d 92 (by omega) _ HA.out.ps h92; wkk; refine Calls.mono (ht) ?_; rintro _ wu ⟨rfl, hp, he⟩; dsimp only; have HA := Lib.hid (HA.out.go hp he); clear ht hp he; clear h40 h91 h46 h92 hi; have hk := hk _ HA.out.ps; wkk
   cases hK : kndR S.data.toList (i + 1) with
   | some p =>
     rw [hK] at hk hX; have HC := Lib.hid hX.symm; clear hX hesc hn; refine Calls.mono (hk) ?_; rintro _ w2 ⟨rfl, hp, he⟩; dsimp only; have HA := Lib.hid (HA.out.go hp he); have HA := Lib.hid (HA.out.keep ((Below.refl _ w2).alloc (Nat.le_refl _) (.cells (sc p) 30))); have HL : Hid (SetAt (w2.alloc (.cells (sc p) 30)) w2.heap.size p) := Lib.hid (Go.heap_alloc_new _ _); clear hk hp he hK; have HD := Lib.hid (HA.out.done (ReX.setT (Z + 1) g _ p)); have HM := Lib.hid HA.out.bx
     wkka (first | (with_reducible refine load_set1 HL.out _ rfl rfl ?_; dsimp only [Act.put]) | (refine store_box HM.out (setN p) rfl _ _ rfl rfl rfl ?_; dsimp only [Act.put])); refine bodyPost_ret (results_re rfl _ _ _ _ rfl (HM.out.set _)) rfl ?_; exact TPost.okI HC.out ⟨⟨_, rfl, HD.out.1⟩, HD.out.2.1, HD.out.2.2⟩
   | none =>
     rw [hK] at hk hX; dsimp only at hX; refine Calls.mono (hk) ?_; rintro _ w2 ⟨rfl, hp, he⟩; dsimp only; have HA := Lib.hid (HA.out.go hp he); have HA := Lib.hid (HA.out.keep ((Below.refl _ w2).alloc (Nat.le_refl _) (.cells (sc fun _ => false) 30))); clear hk hp he hK; have hc := hesc _ HA.out.ps; clear hesc; wkk
     cases hE : escR S.data.toList (i + 1) with
     | out => exact absurd hE escR_out
     | bad e0 j =>
       rw [hE] at hc hX; have HC := Lib.hid hX.symm; refine Calls.mono hc ?_; rintro _ wy ⟨rfl, he⟩; exact ⟨rfl, TPost.badI HC.out ⟨rfl, HA.out.els.trans he⟩⟩
     | ok c j =>
       have hc256 := escR_lt hE; rw [hE] at hc hX; have HC := Lib.hid hX.symm; clear hX hE hn hi1; refine Calls.mono (hc) ?_; rintro _ w3 ⟨rfl, hp, he⟩; dsimp only; have HA := Lib.hid (HA.out.go hp he); clear hc hp he; wkk; refine Calls.mono ((ps_one c hc256 _)) ?_; rintro _ w4 ⟨rfl, hb⟩; dsimp only; have HA := Lib.hid (HA.out.keep hb); clear hb; have HD := Lib.hid (HA.out.done (ReX.setT _ _ _ (oneB c))); have HM := Lib.hid HA.out.bx; wkka (first | (refine store_box HM.out (setN (oneB c)) rfl _ _ rfl rfl rfl ?_; dsimp only [Act.put]))
       refine bodyPost_ret (results_re rfl _ _ _ _ rfl (HM.out.set _)) rfl ?_; exact TPost.okI HC.out ⟨⟨_, rfl, HD.out.1⟩, HD.out.2.1, HD.out.2.2⟩
 rw [if_neg h92] at hX
 by_cases hlt : i < S.size
 · have hlt' : ¬ (i : Int) ≥ S.size := by omega
   have hx := byte_is S i hlt; have hb := bt_lt S.data.toList i; have hw : IntKind.i64.wrap ((i : Int) + 1) = ((i + 1 : Nat) : Int) := by rw [wi64 (by unfold I64; omega)]; omega
   have hw2 : IntKind.i64.wrap (((i + 1 : Nat) : Int) - 1) = (i : Int) := by rw [wi64 (by unfold I64; omega)]; omega
   obtain ⟨x, hxx⟩ : ∃ x, bt S.data.toList i = x := ⟨_, rfl⟩; rw [hxx] at hx hb hX; obtain ⟨j, hj⟩ : ∃ j, i + 1 = j := ⟨_, rfl⟩; rw [hj] at hw hw2 hX; have hI : ∀ W, Calls Tryd.prog 12 #[.string ⟨#[92, 40, 41, 91, 93, 123, 125, 46, 42, 43, 63, 124, 94, 36]⟩, .int .u8 (x : Nat)] W fun e w' => e = .returned (.int .i64 (Lib.indexByte [92, 40, 41, 91, 93, 123, 125, 46, 42, 43, 63, 124, 94, 36] ((x : Nat) : Int).toNat.toUInt8)) ∧ w' = W := fun W => Tryd.strings_IndexByte ⟨#[92, 40, 41, 91, 93, 123, 125, 46, 42, 43, 63, 124, 94, 36]⟩ (x : Nat) W
   have e1 := ix_sgn ⟨x, hb⟩; dsimp only at e1; generalize Lib.indexByte [92, 40, 41, 91, 93, 123, 125, 46, 42, 43, 63, 124, 94, 36] ((x : Nat) : Int).toNat.toUInt8 = v1 at hI e1; rw [decide_eq_decide] at e1; have HHj := Lib.hid hj; clear hj hxx
   by_cases hsg : x ∈ sgP
   · rw [if_neg (fun q => q.2 hsg)] at hX; have HC := Lib.hid hX.symm; have hv : v1 ≥ 0 := e1.2 hsg; clear hX hn hi hw hw2 e1 hsg hlt; have HA := Lib.hid (AX.start h); clear h; go_enter Tryd.func76, Tryd.ntmps76
     repeat' (go_not_at_region 1; first | go_values | go_skip | go_guarded | go_step | go_upon)
     generalize hZ : w.heap.size = Z at HA ⊢; refine gen_wd (fun W => AX w Z g S d i W) HA.out ?_; clear HA; rintro w1 hj; have HA := Lib.hid hj; clear hj hZ; wkk; have ht := ps_is_n g S i d 40 _ HA.out.ps h40; wkk; refine Calls.mono (ht) ?_; rintro _ wt ⟨rfl, hb⟩; dsimp only; have HA := Lib.hid (HA.out.keep hb); clear ht hb; have ht := ps_take_n g S i d 91 _ HA.out.ps h91; wkk; refine Calls.mono (ht) ?_; rintro _ wt ⟨rfl, hb⟩; dsimp only; have HA := Lib.hid (HA.out.keep hb); clear ht hb; have ht := ps_take_n g S i d 46 _ HA.out.ps h46; wkk; refine Calls.mono (ht) ?_
     rintro _ wt ⟨rfl, hb⟩; dsimp only; have HA := Lib.hid (HA.out.keep hb); clear ht hb; have ht := ps_take_n g S i d 92 _ HA.out.ps h92; wkk; refine Calls.mono (ht) ?_; rintro _ wt ⟨rfl, hb⟩; dsimp only; have HA := Lib.hid (HA.out.keep hb); clear ht hb; clear h40 h91 h46 h92 hb; wkk; have q0 : ∀ nq : WB wt, nq.1.cell? ⟨g, 0, none⟩ = some (.string S) := fun nq => (HA.out.ps.keep nq.2).c0
     have q1 : ∀ nq : WB wt, nq.1.cell? ⟨g, 1, none⟩ = some (.int .i64 (i : Int)) := fun nq => (HA.out.ps.keep nq.2).c1
     refine wp_region_wb (by kernel_rfl) (by kernel_rfl) wt (Below.refl _ _) ?_
     repeat (go_big_quiet_step ((go_at_call 12; exact calls_wb_same ((hI _).mono fun _ _ ⟨he, hw⟩ => ⟨he, hw.symm⟩))))
     refine wpQuiet_nil ?_; rintro _ ⟨nr, rfl⟩; have HA := Lib.hid (HA.out.keep nr.2); clear q0 q1 hI; have hf := ps_fail g S i d nr.1 HA.out.ps; wkk; refine Calls.mono hf ?_; rintro _ w2 ⟨rfl, rfl⟩; exact ⟨rfl, TPost.badI HC.out ⟨rfl, HA.out.els⟩⟩
   · rw [if_pos ⟨hlt, hsg⟩] at hX; have HC := Lib.hid hX.symm; have hv : ¬ v1 ≥ 0 := mt e1.1 hsg; clear hX hn hi e1 hsg hlt; have HA := Lib.hid (AX.start h); clear h; go_enter Tryd.func76, Tryd.ntmps76
     repeat' (go_not_at_region 1; first | go_values | go_skip | go_guarded | go_step | go_upon)
     generalize hZ : w.heap.size = Z at HA ⊢; refine gen_wd (fun W => AX w Z g S d i W) HA.out ?_; clear HA; rintro w1 hj; have HA := Lib.hid hj; clear hj hZ; wkk; have ht := ps_is_n g S i d 40 _ HA.out.ps h40; wkk; refine Calls.mono (ht) ?_; rintro _ wt ⟨rfl, hb⟩; dsimp only; have HA := Lib.hid (HA.out.keep hb); clear ht hb; have ht := ps_take_n g S i d 91 _ HA.out.ps h91; wkk; refine Calls.mono (ht) ?_; rintro _ wt ⟨rfl, hb⟩; dsimp only; have HA := Lib.hid (HA.out.keep hb); clear ht hb; have ht := ps_take_n g S i d 46 _ HA.out.ps h46; wkk; refine Calls.mono (ht) ?_
     rintro _ wt ⟨rfl, hb⟩; dsimp only; have HA := Lib.hid (HA.out.keep hb); clear ht hb; have ht := ps_take_n g S i d 92 _ HA.out.ps h92; wkk; refine Calls.mono (ht) ?_; rintro _ wt ⟨rfl, hb⟩; dsimp only; have HA := Lib.hid (HA.out.keep hb); clear ht hb; clear h40 h91 h46 h92; wkk; have q0 : ∀ nq : WB wt, nq.1.cell? ⟨g, 0, none⟩ = some (.string S) := fun nq => (HA.out.ps.keep nq.2).c0
     have q1 : ∀ nq : WB wt, nq.1.cell? ⟨g, 1, none⟩ = some (.int .i64 (i : Int)) := fun nq => (HA.out.ps.keep nq.2).c1
     refine wp_region_wb (by kernel_rfl) (by kernel_rfl) wt (Below.refl _ _) ?_
     repeat (go_big_quiet_step ((go_at_call 12; exact calls_wb_same ((hI _).mono fun _ _ ⟨he, hw⟩ => ⟨he, hw.symm⟩))))
     refine wpQuiet_nil ?_; rintro _ ⟨nr, rfl⟩; have HA := Lib.hid (HA.out.keep nr.2); clear q0 q1 hI; have c1 := HA.out.ps.c1; have f1 := HA.out.ps.free 1; have HA := Lib.hid (HA.out.setI j); wkk; clear c1 f1; generalize World.setCell nr.1 ⟨g, 1, none⟩ (.int .i64 (j : Int)) = w5 at HA ⊢; obtain ⟨C, hC⟩ : ∃ C : World → Prop, C = fun W => PsAt W g S j d := ⟨_, rfl⟩
     have Hmk : Hid (∀ W, PsAt W g S j d → C W) := Lib.hid (fun W h => by rw [hC]; exact h); have hC' : ∀ W, C W → PsAt W g S j d := fun W h => by rw [hC] at h; exact h
     have q0 : ∀ nq : GW C, nq.1.cell? ⟨g, 0, none⟩ = some (.string S) := fun nq => (hC' _ nq.2).c0
     have q1 : ∀ nq : GW C, nq.1.cell? ⟨g, 1, none⟩ = some (.int .i64 (j : Int)) := fun nq => (hC' _ nq.2).c1
     clear hC hC'; refine wp_region_anyP (by kernel_rfl) C ?_; refine tkC 0 rfl ?_; refine tkC 1 rfl ?_; refine tkC 2 rfl ?_; refine tkC 3 rfl ?_; refine tkC 4 rfl ?_; refine tkC 5 rfl ?_; refine tkC 6 rfl ?_; refine tkC 7 rfl ?_; refine tkC 8 rfl ?_; refine tkC 9 rfl ?_; refine genCp (fun W => AX w Z g S d j W) (HA.out.keep (Below.refl _ _).drew) ?_; clear q0 q1 HA; intro W0 h0; refine wpAnyC_ready (CG.of (Hmk.out _ h0.ps)) (rs := [10]) (by kernel_rfl) (by simp) ?_; refine (AllReadyC.cons rfl (fun K hK => ?_) AllReadyC.nil); go_simp; refine Calls.mono ((ps_one x hb W0)) ?_
     rintro _ W1 ⟨rfl, hbb⟩; dsimp only; refine hK _ _ ?_; clear hK K; have h1 := h0.keep hbb; clear hbb h0; refine wpAnyC_ready (CG.of (Hmk.out _ h1.ps)) (rs := [11]) (by kernel_rfl) (by simp) ?_; refine (AllReadyC.cons rfl (fun K hK => ?_) AllReadyC.nil); refine step_of rfl (store_box h1.bx (setN (oneB x)) rfl _ _ rfl rfl rfl ?_); refine hK _ _ ?_; clear hK K; have hD := h1.done (ReX.setT (Z + 1) g W1 (oneB x)); refine wpAnyC_done (by kernel_rfl) (CG.of (Hmk.out _ hD.2.1)) (by go_simp <;> with_reducible rfl) ?_; have HM := Lib.hid h1.bx; have HD := Lib.hid hD; clear hD h1 Hmk; wkk
     refine bodyPost_ret (results_re rfl _ _ _ _ rfl (HM.out.set _)) rfl ?_; exact TPost.okI HC.out ⟨⟨_, rfl, HD.out.1⟩, HD.out.2.1, HD.out.2.2⟩
 · have hlt' : (i : Int) ≥ S.size := by omega
   rw [if_neg (fun q => hlt q.1)] at hX; have HC := Lib.hid hX.symm; clear hX hn hi hlt; have HA := Lib.hid (AX.start h); clear h; go_enter Tryd.func76, Tryd.ntmps76
   repeat' (go_not_at_region 1; first | go_values | go_skip | go_guarded | go_step | go_upon)
   generalize hZ : w.heap.size = Z at HA ⊢; refine gen_wd (fun W => AX w Z g S d i W) HA.out ?_; clear HA; rintro w1 hj; have HA := Lib.hid hj; clear hj hZ; wkk; have ht := ps_is_n g S i d 40 _ HA.out.ps h40; wkk; refine Calls.mono (ht) ?_; rintro _ wt ⟨rfl, hb⟩; dsimp only; have HA := Lib.hid (HA.out.keep hb); clear ht hb; have ht := ps_take_n g S i d 91 _ HA.out.ps h91; wkk; refine Calls.mono (ht) ?_; rintro _ wt ⟨rfl, hb⟩; dsimp only; have HA := Lib.hid (HA.out.keep hb); clear ht hb; have ht := ps_take_n g S i d 46 _ HA.out.ps h46; wkk; refine Calls.mono (ht) ?_; rintro _ wt ⟨rfl, hb⟩
   dsimp only; have HA := Lib.hid (HA.out.keep hb); clear ht hb; have ht := ps_take_n g S i d 92 _ HA.out.ps h92; wkk; refine Calls.mono (ht) ?_; rintro _ wt ⟨rfl, hb⟩; dsimp only; have HA := Lib.hid (HA.out.keep hb); clear ht hb; clear h40 h91 h46 h92; wkk; have q0 : ∀ nq : WB wt, nq.1.cell? ⟨g, 0, none⟩ = some (.string S) := fun nq => (HA.out.ps.keep nq.2).c0
   have q1 : ∀ nq : WB wt, nq.1.cell? ⟨g, 1, none⟩ = some (.int .i64 (i : Int)) := fun nq => (HA.out.ps.keep nq.2).c1
   refine wp_region_wb (by kernel_rfl) (by kernel_rfl) wt (Below.refl _ _) ?_
   repeat (go_big_quiet_step (fail))
   refine wpQuiet_nil ?_; rintro _ ⟨nr, rfl⟩; have HA := Lib.hid (HA.out.keep nr.2); clear q0 q1; have hf := ps_fail g S i d nr.1 HA.out.ps; wkk; refine Calls.mono hf ?_; rintro _ w2 ⟨rfl, rfl⟩; exact ⟨rfl, TPost.badI HC.out ⟨rfl, HA.out.els⟩⟩
open Go.RowKit Go.Lib
theorem CT.zero (g : Nat) (S : ByteArray) (fn : Nat) (k : Tk) : CT g S fn k 0 := fun _ _ _ _ _ _ hn => absurd (by rw [prs]) hn
theorem ps_all (g : Nat) (S : ByteArray) (hS : S.size ≤ 512) : ∀ n f, f ≤ n → CT g S 63 .alt f ∧ CT g S 70 (.cat []) f ∧ CT g S 75 .item f ∧ CT g S 76 .atom f
 | 0, f, hf => by
   rw [Nat.le_zero.1 hf]; exact ⟨CT.zero _ _ _ _, CT.zero _ _ _ _, CT.zero _ _ _ _, CT.zero _ _ _ _⟩
 | n + 1, f, hf => by
   have ih := ps_all g S hS n
   cases f with
   | zero => exact ⟨CT.zero _ _ _ _, CT.zero _ _ _ _, CT.zero _ _ _ _, CT.zero _ _ _ _⟩
   | succ f =>
     have h1 := ih f (by omega); exact ⟨ps_alt g S f hS fun f' hf' => (ih f' (by omega)).2.1, ps_cat g S (f + 1) hS fun f' hf' => (ih f' (by omega)).2.2.1, ps_item g S f hS h1.2.2.2, ps_atom g S f hS h1.1⟩
end Go.Proofs.YtonkenlkigfeoaaDoor
