/- Walks: a set's bits asked and set, one by one (the reference's Has, With, Of, Bytes, Not, Join, Meet). No conditions. -/
import Derived.Test.YtonkenlkigfeoaaDoorPk01
import Derived.Test.YtonkenlkigfeoaaDoorPk03
import Derived.Test.YtonkenlkigfeoaaDoorProg
import Derived.Laws.Tables
import Derived.ChangeKeysEq
import Derived.Laws.StructEq
import Derived.Deep.WholeRow
namespace Go.Proofs.YtonkenlkigfeoaaDoor
open Go.RowKit
theorem run_eqItems_ints {P : Program} (w : World) (d : Nat) {e : TypeId} {k : IntKind} (he : P.underlying e = some (.int k)) (xs ys : Array Value) (f g : Nat → Int) :
   ∀ is : List Nat, (∀ i ∈ is, xs[i]? = some (.int k (f i))) → (∀ i ∈ is, ys[i]? = some (.int k (g i))) → (Op.eqItems (d + 1) e 1 xs ys is).run P w = .ok (is.all fun i => f i == g i) w := by
 have hp : P.plainKey e = true := by unfold Program.plainKey; rw [he]
 intro is
 induction is with
 | nil => intro _ _; simp [Op.eqItems]
 | cons i is ih =>
   intro hx hy; have h1 := run_part_plain (P := P) (w := w) hp (hx i (by simp)); have h2 := run_part_plain (P := P) (w := w) hp (hy i (by simp)); simp only [Op.eqItems, Sem.run_bind, Nat.mul_one, h1, h2, Result.andThen_ok, run_equalIn_int w d e k k _ _ he]; have h3 := ih (fun j hj => hx j (by simp [hj])) (fun j hj => hy j (by simp [hj]))
   cases h : (f i == g i) <;> simp [h, h3]
theorem run_eq_ints {P : Program} (w : World) (d : Nat) {t e : TypeId} {n : Nat} {k : IntKind} (ht : P.underlying t = some (.array n e)) (he : P.underlying e = some (.int k)) (hi : (P.info? e).map (fun i => i.size) = some 1) (xs ys : Array Value) (f g : Nat → Int)
   (hx : ∀ i, i < n → xs[i]? = some (.int k (f i))) (hy : ∀ i, i < n → ys[i]? = some (.int k (g i))) : (Op.equalIn (d + 2) t (.agg xs) (.agg ys)).run P w = .ok ((List.range n).all fun i => f i == g i) w := by
 cases h : P.info? e with
 | none => rw [h] at hi; cases hi
 | some i =>
   have hc : P.cellsOf e = 1 := by rw [h] at hi; simp [Program.cellsOf, h]; simpa using hi
   rw [run_equalIn_array (P := P) w (d + 1) xs ys ht h, hc]; exact run_eqItems_ints w d he xs ys f g _ (fun j hj => hx j (List.mem_range.1 hj)) (fun j hj => hy j (List.mem_range.1 hj))
theorem info_w : (Tryd.prog.info? 27).map (fun i => i.size) = some 1 := by kernel_rfl
theorem eq_words (a0 a1 a2 a3 b0 b1 b2 b3 : Int) (w : World) : (Op.equalIn 9999 28 (.agg #[.int .u64 a0, .int .u64 a1, .int .u64 a2, .int .u64 a3]) (.agg #[.int .u64 b0, .int .u64 b1, .int .u64 b2, .int .u64 b3])).run Tryd.prog w = .ok (a0 == b0 && (a1 == b1 && (a2 == b2 && a3 == b3))) w := by
 have h := run_eq_ints (P := Tryd.prog) w 9997 Tryd.underlying28 Tryd.underlying27 info_w #[.int .u64 a0, .int .u64 a1, .int .u64 a2, .int .u64 a3] #[.int .u64 b0, .int .u64 b1, .int .u64 b2, .int .u64 b3] (fun i => [a0, a1, a2, a3].getD i 0) (fun i => [b0, b1, b2, b3].getD i 0)
   (fun i hi => by rcases (by omega : i = 0 ∨ i = 1 ∨ i = 2 ∨ i = 3) with rfl | rfl | rfl | rfl <;> rfl) (fun i hi => by rcases (by omega : i = 0 ∨ i = 1 ∨ i = 2 ∨ i = 3) with rfl | rfl | rfl | rfl <;> rfl)
 rw [h]
 simp [List.range, List.range.loop]
attribute [go_sem] eq_words
theorem info_set : (Tryd.prog.info? 30).map (fun i => i.size) = some 4 := by kernel_rfl
theorem cases64 {b : Nat} (hb : b < 256) : b / 64 = 0 ∨ b / 64 = 1 ∨ b / 64 = 2 ∨ b / 64 = 3 := by omega
theorem int64_of {b q : Nat} (h : b / 64 = q) : (b : Int) / 64 = (q : Int) := by omega
/-- the set p, and the byte b -/
def wth (p : Nat → Bool) (b : Nat) : Nat → Bool := fun c => p c || c == b
theorem or_word (p : Nat → Bool) (b q : Nat) (h : b / 64 = q) : bits .or .u64 ((W p q : Nat) : Int) (2 ^ (b % 64)) = ((W (wth p b) q : Nat) : Int) := by
 have hp : 2 ^ (b % 64) < 18446744073709551616 := Nat.pow_lt_pow_right (by omega : 1 < 2) (show b % 64 < 64 from Nat.mod_lt _ (by omega)); rw [show ((2 : Int) ^ (b % 64)) = ((2 ^ (b % 64) : Nat) : Int) from by simp, u64_or_nat _ _ (W_lt _ _) hp]; subst h; rw [W_set]; rfl
theorem keep_word (p : Nat → Bool) (b i : Nat) (h : i ≠ b / 64) : W p i = W (wth p b) i := (W_keep p b i h).symm
/-- a set's cells -/
noncomputable abbrev sc (p : Nat → Bool) : Array Value := #[.int .u64 (W p 0 : Nat), .int .u64 (W p 1 : Nat), .int .u64 (W p 2 : Nat), .int .u64 (W p 3 : Nat)]
theorem sc_one (p : Nat → Bool) : (sc p).all (·.oneCell') = true := by simp [Value.oneCell']
/-- a variable of the call's own that holds a set -/
def SetAt (w : World) (g : Nat) (p : Nat → Bool) : Prop := w.heap[g]? = some (.cells (sc p) 30 (0, 0))
theorem SetAt.lt {w : World} {g : Nat} {p : Nat → Bool} (h : SetAt w g p) : g < w.heap.size := (Array.getElem?_eq_some_iff.1 h).1
theorem SetAt.keep {w w' : World} {g : Nat} {p : Nat → Bool} (h : SetAt w g p) (hb : Below w.heap.size w w') : SetAt w' g p := by
 unfold SetAt; rw [hb.block g h.lt]; exact h
theorem SetAt.c0 {w : World} {g : Nat} {p : Nat → Bool} (h : SetAt w g p) : w.cell? ⟨g, 0, none⟩ = some (.int .u64 (W p 0 : Nat)) := by rw [cell_of_row w g 0 _ _ _ h]; rfl
theorem SetAt.c1 {w : World} {g : Nat} {p : Nat → Bool} (h : SetAt w g p) : w.cell? ⟨g, 1, none⟩ = some (.int .u64 (W p 1 : Nat)) := by rw [cell_of_row w g 1 _ _ _ h]; rfl
theorem SetAt.c2 {w : World} {g : Nat} {p : Nat → Bool} (h : SetAt w g p) : w.cell? ⟨g, 2, none⟩ = some (.int .u64 (W p 2 : Nat)) := by rw [cell_of_row w g 2 _ _ _ h]; rfl
theorem SetAt.c3 {w : World} {g : Nat} {p : Nat → Bool} (h : SetAt w g p) : w.cell? ⟨g, 3, none⟩ = some (.int .u64 (W p 3 : Nat)) := by rw [cell_of_row w g 3 _ _ _ h]; rfl
theorem SetAt.keepB {w w' : World} {g B : Nat} {p : Nat → Bool} (h : SetAt w g p) (hb : Below B w w') (hg : g < B) : SetAt w' g p := by
 unfold SetAt; rw [hb.block g hg]; exact h
theorem SetAt.set {w : World} {g : Nat} {p q : Nat → Bool} (h : SetAt w g p) : SetAt (w.setRow g (sc q)) g q := setRow_heap _ _ _ _ _ _ h
theorem SetAt.other {w : World} {g g' : Nat} {p q : Nat → Bool} (h : SetAt w g p) (hg : g ≠ g') : SetAt (w.setRow g' (sc q)) g p := by
 unfold SetAt; rw [setRow_other _ _ _ _ hg]; exact h
theorem SetAt.zero (w : World) : SetAt (w.alloc (.cells #[.int .u64 0, .int .u64 0, .int .u64 0, .int .u64 0] 30)) w.heap.size (fun _ => false) := by
 unfold SetAt; rw [Go.heap_alloc_new]; simp [sc, W_none]
theorem SetAt.zeros (w : World) : SetAt ((w.alloc (.cells #[.int .u64 0, .int .u64 0, .int .u64 0, .int .u64 0] 30)).alloc (.cells #[.int .u64 0, .int .u64 0, .int .u64 0, .int .u64 0] 30)) w.heap.size (fun _ => false) :=
 (SetAt.zero w).keep ((Below.refl _ _).alloc (Nat.le_refl _) _)
theorem SetAt.zeros1 (w : World) : SetAt ((w.alloc (.cells #[.int .u64 0, .int .u64 0, .int .u64 0, .int .u64 0] 30)).alloc (.cells #[.int .u64 0, .int .u64 0, .int .u64 0, .int .u64 0] 30)) (w.heap.size + 1) (fun _ => false) := by
 have := SetAt.zero (w.alloc (.cells #[.int .u64 0, .int .u64 0, .int .u64 0, .int .u64 0] 30)); rwa [World.size_alloc] at this
theorem Below.row {B g : Nat} {w0 w : World} (hb : Below B w0 w) (hBg : B ≤ g) (cs : Array Value) : Below B w0 (w.setRow g cs) :=
 hb.trans ⟨rfl, rfl, rfl, by simp, fun k hk => setRow_other _ _ _ _ (by omega)⟩
theorem sc_size (p : Nat → Bool) : (sc p).size = 4 := rfl
theorem store_set1 {o : Oper} {a : Act} {w : World} {K : Act → World → Prop} {Q : Exit → Act → World → Prop} {g : Nat} {p : Nat → Bool} (hs : SetAt w g p) (q : Nat → Bool) (x y : Operand) (ho : o.op = .store 30 x y)
   (hx : a.eval x = .pointer (some ⟨g, 0, none⟩)) (hy : a.eval y = vS q) (h : K (a.put o.dst undef) (w.setRow g (sc q))) : o.wp Tryd.prog a w K Q :=
 wp_store_row _ x y ho g (sc q) hx hy 30 (sc p) hs (by rw [sc_size]; exact info_set) ((sc_size p).trans (sc_size q).symm) (sc_one q) h
theorem load_set1 {o : Oper} {a : Act} {w : World} {K : Act → World → Prop} {Q : Exit → Act → World → Prop} {g : Nat} {p : Nat → Bool} (hs : SetAt w g p) (x : Operand) (ho : o.op = .load 30 x)
   (hx : a.eval x = .pointer (some ⟨g, 0, none⟩)) (h : K (a.put o.dst (vS p)) w) : o.wp Tryd.prog a w K Q :=
 wp_load_row _ x ho g hx 30 (sc p) (0, 0) _ hs Tryd.underlying30 rfl (by rw [sc_size]; exact info_set) h
theorem results_set {fn : Func} {p' : Tmp} (h : fn.results = #[.cell p' 30]) (tmps : Array Value) (w : World) (g : Nat) (p : Nat → Bool) (hp : tmps.getD p' undef = .pointer (some ⟨g, 0, none⟩)) (hs : SetAt w g p) :
   (results fn tmps).run Tryd.prog w = .ok (vS p) w :=
 results_cell_row h tmps w g 30 (sc p) (0, 0) _ hp hs Tryd.underlying30 rfl (by rw [sc_size]; exact info_set)
theorem SetAt.cell {w : World} {g : Nat} {p : Nat → Bool} (h : SetAt w g p) (k : Nat) (hk : k < 4) : w.cell? ⟨g, k, none⟩ = some (.int .u64 (W p k : Nat)) := by
 rcases (by omega : k = 0 ∨ k = 1 ∨ k = 2 ∨ k = 3) with rfl | rfl | rfl | rfl
 · exact h.c0
 · exact h.c1
 · exact h.c2
 · exact h.c3
theorem gen_world {P : Program} {c : Code} {Q : Exit → Act → World → Prop} {a : Act} {w : World} (F : World → Prop) (hF : F w) (h : ∀ w', F w' → c.wp P Q a w') : c.wp P Q a w := h w hF
theorem take_next (s : ByteArray) (k : Nat) (hk : k < s.size) : s.data.toList.take (k + 1) = s.data.toList.take k ++ [s[k]] := by
 rw [List.take_succ_eq_append_getElem (by simpa using hk)]; rfl
/-- the set of a text's bytes -/
def ofL (l : List UInt8) : Nat → Bool := fun b => l.any fun x => b == x.toNat
theorem ofL_snoc (l : List UInt8) (x : UInt8) : ofL (l ++ [x]) = wth (ofL l) x.toNat := by funext b; simp [ofL, wth]
theorem at8_get (s : ByteArray) (k : Nat) (hk : k < s.size) : s[k].toNat = at8 s.data.toList k := ba_at s k hk
/-- two sets' parameters and a result, in the call's own variables -/
def Par2 (w w' : World) (p q : Nat → Bool) : Prop := Below w.heap.size w w' ∧ SetAt w' w.heap.size p ∧ SetAt w' (w.heap.size + 1) q ∧ SetAt w' (w.heap.size + 1 + 1) fun _ => false
theorem params2 (w : World) (p q : Nat → Bool) : Par2 w (((w.alloc (.cells (sc p) 30)).alloc (.cells (sc q) 30)).alloc (.cells #[.int .u64 0, .int .u64 0, .int .u64 0, .int .u64 0] 30)) p q := by
 have h0 : SetAt (w.alloc (.cells (sc p) 30)) w.heap.size p := Go.heap_alloc_new _ _; have h1 : SetAt ((w.alloc (.cells (sc p) 30)).alloc (.cells (sc q) 30)) (w.alloc (.cells (sc p) 30)).heap.size q := Go.heap_alloc_new _ _; have h2 := SetAt.zero ((w.alloc (.cells (sc p) 30)).alloc (.cells (sc q) 30)); rw [World.size_alloc] at h1 h2; rw [World.size_alloc] at h2
 exact ⟨(((Below.refl _ _).alloc (Nat.le_refl _) _).alloc (by simp) _).alloc (by simp; omega) _, (h0.keep ((Below.refl _ _).alloc (Nat.le_refl _) _)).keep ((Below.refl _ _).alloc (Nat.le_refl _) _), h1.keep ((Below.refl _ _).alloc (Nat.le_refl _) _), h2⟩
open Go.RowKit
/-- the first k words are r's, the others p's -/
def mixTo (p r : Nat → Bool) (k : Nat) : Nat → Bool := fun b => if b / 64 < k then r b else p b
theorem mix_zero (p r : Nat → Bool) : mixTo p r 0 = p := by funext b; simp [mixTo]
theorem mix_four (p r : Nat → Bool) (b : Nat) (hb : b < 256) : mixTo p r 4 b = r b := by
 unfold mixTo; rw [if_pos (by omega)]
theorem mix_at (p r : Nat → Bool) (k i : Nat) : W (mixTo p r k) i = if i < k then W r i else W p i := by
 by_cases h : i < k
 · rw [if_pos h]
   exact (W_ext (W_u64 r i) fun j hj => by
     rw [W_bit]; have e : (64 * i + j) / 64 = i := by omega
     simp [mixTo, e, h, hj]).symm
 · rw [if_neg h]
   exact (W_ext (W_u64 p i) fun j hj => by
     rw [W_bit]; have e : (64 * i + j) / 64 = i := by omega
     simp [mixTo, e, h, hj]).symm
theorem SetAt.setk {w : World} {g : Nat} {p r : Nat → Bool} {k : Nat} (h : SetAt w g (mixTo p r k)) (hk : k < 4) : SetAt (w.setCell ⟨g, k, none⟩ (.int .u64 (W r k : Nat))) g (mixTo p r (k + 1)) := by
 have e := setCell_eq_setRow w g k _ _ _ (.int .u64 (W r k : Nat)) h; rw [e]; unfold SetAt; rw [setRow_heap _ _ _ _ _ _ h]; have hc : (sc (mixTo p r k)).setIfInBounds k (.int .u64 (W r k : Nat)) = sc (mixTo p r (k + 1)) := by
   rcases (by omega : k = 0 ∨ k = 1 ∨ k = 2 ∨ k = 3) with rfl | rfl | rfl | rfl <;> simp [sc, mix_at]
 rw [hc]
theorem SetAt.free {w : World} {g : Nat} {p : Nat → Bool} (h : SetAt w g p) (k : Nat) : w.frozen? ⟨g, k, none⟩ = false := frozen_of_row _ _ _ _ _ h
theorem SetAt.cellOther {w : World} {g g' k : Nat} {p : Nat → Bool} {v : Value} (h : SetAt w g p) (hg : g ≠ g') : SetAt (w.setCell ⟨g', k, none⟩ v) g p := by
 unfold SetAt; rw [heap_setCell_other _ _ _ _ (by dsimp only; omega)]; exact h
theorem u64_or_W (p q : Nat → Bool) (k : Nat) : bits .or .u64 ((W p k : Nat) : Int) ((W q k : Nat) : Int) = ((W (fun b => p b || q b) k : Nat) : Int) := by
 rw [u64_or_nat _ _ (W_lt _ _) (W_lt _ _), W_or]
set_option maxRecDepth 100000 in
set_option maxHeartbeats 400000 in
theorem set_Join (p q : Nat → Bool) (w : World) :
   Calls Tryd.prog 86 #[vS p, vS q] w fun e w' => e = .returned (vS fun b => p b || q b) ∧ Below w.heap.size w w' := by
 go_enter Tryd.func86, Tryd.ntmps86; wkk; refine gen_world (fun w' => Par2 w w' p q) (params2 w p q) ?_; rintro ws ⟨hb, h0, h1, h2⟩
 go_loopw [5, 6] (fun _ s6 w' => ∃ k : Nat, s6 = .int .i64 k ∧ k ≤ 4 ∧ Hid (Below w.heap.size w w') ∧ Hid (SetAt w' w.heap.size (mixTo p (fun b => p b || q b) k)) ∧ Hid (SetAt w' (w.heap.size + 1) q) ∧ Hid (SetAt w' (w.heap.size + 1 + 1) fun _ => false)) (fun _ s6 _ => 4 - (intOf s6).toNat)
 case atStart => exact ⟨0, rfl, by omega, Lib.hid hb, Lib.hid (by rw [mix_zero]; exact h0), Lib.hid h1, Lib.hid h2⟩
 case round =>
   obtain ⟨k, rfl, hk, Hb, H0, H1, H2⟩ := hrel
   by_cases hlt : k < 4
   · have q0 : ∀ nq : WB wr, nq.1.cell? ⟨w.heap.size, k, none⟩ = some (.int .u64 (W p k : Nat)) := fun nq => by
       have := (H0.out.keep nq.2).cell k hlt; rw [mix_at, if_neg (by omega)] at this; exact this
     have q1 : ∀ nq : WB wr, nq.1.cell? ⟨w.heap.size + 1, k, none⟩ = some (.int .u64 (W q k : Nat)) := fun nq => (H1.out.keep nq.2).cell k hlt
     have e := u64_or_W p q k; wkk; refine wp_region_tail 11 (by kernel_rfl) (by kernel_rfl) wr (Below.refl _ _) ?_; simp only [List.take_succ_cons, List.take_zero, List.drop_succ_cons, List.drop_zero]
     repeat (go_big_quiet_step ((fail)))
     refine wpQuiet_nil ?_; rintro _ ⟨nq, rfl⟩; have hnq := nq.2; have c0 := q0 nq; have f0 := (H0.out.keep hnq).free k; clear q0 q1 e; have Hn0 := Lib.hid (H0.out.keep hnq); have Hn1 := Lib.hid (H1.out.keep hnq); have Hn2 := Lib.hid (H2.out.keep hnq); have Hbn := Lib.hid (Hb.out.trans (hnq.mono Hb.out.size)); clear H0 H1 H2 Hb hnq; wkk
     go_roundw
     case rel => exact ⟨k + 1, by go_num, hlt, Lib.hid (Hbn.out.setCell (Nat.le_refl _) _), Lib.hid (Hn0.out.setk hlt), Lib.hid (Hn1.out.cellOther (by omega)), Lib.hid (Hn2.out.cellOther (by omega))⟩
     case measure => simp [intOf]; omega
   · obtain rfl : k = 4 := by omega
     wkka (first | (with_reducible refine load_set1 H0.out _ rfl rfl ?_) | (with_reducible refine store_set1 H2.out _ _ _ rfl rfl rfl ?_)); refine bodyPost_ret (v := vS (mixTo p (fun b => p b || q b) 4)) (results_set rfl _ _ _ _ rfl H2.out.set) rfl ⟨?_, ?_⟩
     · exact congrArg Ending.returned (vS_congr fun b hb => mix_four _ _ b hb)
     · exact Below.row Hb.out (by omega) _
theorem u64_not_W (p : Nat → Bool) (k : Nat) : bits .xor .u64 (if IntKind.u64.signed = true then -1 else IntKind.u64.max) ((W p k : Nat) : Int) = ((W (fun b => !p b) k : Nat) : Int) := by
 rw [if_neg (by decide), show IntKind.u64.max = ((18446744073709551615 : Nat) : Int) from by decide, u64_xor_nat _ _ (by decide) (W_lt _ _)]
 congr 1
 refine W_ext (Nat.xor_lt_two_pow (n := 64) (by decide) (W_lt _ _)) fun j hj => ?_
 rw [Nat.testBit_xor, show 18446744073709551615 = 2 ^ 64 - 1 from rfl, Nat.testBit_two_pow_sub_one, W_bit]
 simp [hj]
set_option maxRecDepth 100000 in
set_option maxHeartbeats 400000 in
theorem set_Not (p : Nat → Bool) (w : World) :
   Calls Tryd.prog 80 #[vS p] w fun e w' => e = .returned (vS fun b => !p b) ∧ Below w.heap.size w w' := by
 go_enter Tryd.func80, Tryd.ntmps80; wkk; have hb : Below w.heap.size w ((w.alloc (.cells (sc p) 30)).alloc (.cells #[.int .u64 0, .int .u64 0, .int .u64 0, .int .u64 0] 30)) := ((Below.refl _ _).alloc (Nat.le_refl _) _).alloc (by simp) _; have h0 : SetAt ((w.alloc (.cells (sc p) 30)).alloc (.cells #[.int .u64 0, .int .u64 0, .int .u64 0, .int .u64 0] 30)) w.heap.size p := SetAt.keep (show SetAt (w.alloc (.cells (sc p) 30)) w.heap.size p from Go.heap_alloc_new _ _) ((Below.refl _ _).alloc (Nat.le_refl _) _)
 have h1 : SetAt ((w.alloc (.cells (sc p) 30)).alloc (.cells #[.int .u64 0, .int .u64 0, .int .u64 0, .int .u64 0] 30)) (w.heap.size + 1) (fun _ => false) := by
   have := SetAt.zero (w.alloc (.cells (sc p) 30)); rwa [World.size_alloc] at this
 have Hb := Lib.hid hb; have H0 := Lib.hid h0; have H1 := Lib.hid h1; clear hb h0 h1
 go_loopw [3, 4] (fun _ s6 w' => ∃ k : Nat, s6 = .int .i64 k ∧ k ≤ 4 ∧ Hid (Below w.heap.size w w') ∧ Hid (SetAt w' w.heap.size (mixTo p (fun b => !p b) k)) ∧ Hid (SetAt w' (w.heap.size + 1) fun _ => false)) (fun _ s6 _ => 4 - (intOf s6).toNat)
 case atStart => exact ⟨0, rfl, by omega, Hb, Lib.hid (by rw [mix_zero]; exact H0.out), H1⟩
 case round =>
   clear Hb H0 H1; obtain ⟨k, rfl, hk, Hb, H0, H1⟩ := hrel
   by_cases hlt : k < 4
   · have q0 : ∀ nq : WB wr, nq.1.cell? ⟨w.heap.size, k, none⟩ = some (.int .u64 (W p k : Nat)) := fun nq => by
       have := (H0.out.keep nq.2).cell k hlt; rw [mix_at, if_neg (by omega)] at this; exact this
     have c0 := H0.out.cell k hlt; rw [mix_at, if_neg (by omega)] at c0; have f0 := H0.out.free k; have e := u64_not_W p k; clear q0; wkk
     go_roundw
     case rel => exact ⟨k + 1, by go_num, hlt, Lib.hid (Hb.out.setCell (Nat.le_refl _) _), Lib.hid (H0.out.setk hlt), Lib.hid (H1.out.cellOther (by omega))⟩
     case measure => simp [intOf]; omega
   · obtain rfl : k = 4 := by omega
     wkka (first | (with_reducible refine load_set1 H0.out _ rfl rfl ?_) | (with_reducible refine store_set1 H1.out _ _ _ rfl rfl rfl ?_)); refine bodyPost_ret (v := vS (mixTo p (fun b => !p b) 4)) (results_set rfl _ _ _ _ rfl H1.out.set) rfl ⟨?_, ?_⟩
     · exact congrArg Ending.returned (vS_congr fun b hb => mix_four _ _ b hb)
     · exact Below.row Hb.out (by omega) _
end Go.Proofs.YtonkenlkigfeoaaDoor
