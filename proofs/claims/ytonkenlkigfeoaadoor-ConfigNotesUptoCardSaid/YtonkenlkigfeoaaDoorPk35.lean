/- Walks: how lines begin, and what reads the rest (words); an iterator of a map wherever it lies. No conditions. -/
import Derived.Test.YtonkenlkigfeoaaDoorPk34
import Derived.Test.YtonkenlkigfeoaaDoorPk28
import Derived.Laws.IdiomRangeMap
import Derived.Test.YtonkenlkigfeoaaDoorPk32
import Derived.Test.YtonkenlkigfeoaaDoorPk26
import Derived.Test.YtonkenlkigfeoaaDoorPk22
namespace Go.Proofs.YtonkenlkigfeoaaDoor
open Go.RowKit Go.Lib
section
variable {P : Program}
/-- 'next', the iterator lying anywhere -/
theorem run_next_at (w : World) (ty : TypeId) (it bm since c0 : Nat) (seen : Array Nat) (es : Array MapEntry) (clock : Nat) (hi : w.heap[it]? = some (.mapIter (some bm) since seen c0)) (hb : w.heap[bm]? = some (.map es clock)) (hold : ∀ x ∈ es.toList, x.born < since) (hsc : since ≤ c0) :
   ((leftOf es seen).size = 0 ∧ (Instr.next (.pointer (some ⟨it, 0, none⟩)) false ty).run P w = .ok (.tuple #[.bool false]) w) ∨
   ∃ e ∈ (leftOf es seen).toList, ∃ w1 : World, w1.heap = w.heap ∧ Below w.heap.size w w1 ∧ (Instr.next (.pointer (some ⟨it, 0, none⟩)) false ty).run P w = .ok (.tuple #[.bool true, e.key, e.val]) (Go.ChangeMaps.setBlock w1 it (.mapIter (some bm) since (seen.push e.born) clock)) := by
 simp only [Instr.next, getObj, Sem.run_bind, Sem.run, hi, hb, Result.andThen, next_test_false seen es since c0 hold hsc, Bool.false_eq_true, if_false]; unfold leftOf; have hmem : ∀ x ∈ (Array.filter (fun e => !seen.contains e.born) es).toList, x.born < since := fun x hx => hold x (by simp at hx ⊢; exact hx.1)
 generalize Array.filter (fun e => !seen.contains e.born) es = L at hmem ⊢; have e1 : L.filter (fun x => decide (x.born < since)) = L := Array.filter_eq_self.2 (fun x hx => by simpa using hmem x (by simpa using hx)); have e2 : L.filter (fun x => decide (x.born ≥ since)) = #[] := by
   rw [Array.filter_eq_empty_iff]; intro x hx; have := hmem x (by simpa using hx)
   simp
   omega
 simp only [e1, e2, Array.append_empty]
 by_cases h0 : L.size = 0
 · left
   have : L = #[] := Array.eq_empty_of_size_eq_zero h0; subst this; refine ⟨rfl, ?_⟩
   simp [choose, Sem.run, Question.forced]
 · right
   have hne : L.isEmpty = false := by simp [Array.isEmpty, h0]
   simp only [hne, Bool.false_eq_true, if_false, Array.empty_append, Array.size_map]; have hch : ∃ (j : Nat) (w1 : World), j < L.size ∧ (w1.heap = w.heap ∧ Below w.heap.size w w1) ∧ (choose (Question.mapNext L.size)).run P w = .ok j w1 := by
     by_cases hf : L.size ≤ 1
     · exact ⟨0, w, by omega, ⟨rfl, Below.refl _ _⟩, by simp [choose, Sem.run, Question.forced, hf]⟩
     · exact ⟨_, w.drew, Nat.mod_lt _ (by omega), ⟨rfl, (Below.refl _ _).drew⟩, by
         simp only [choose, Sem.run, Question.forced, decide_eq_true_eq, hf, if_false, Question.cut]
         rfl⟩
   obtain ⟨j, w1, hj, hal, hrun⟩ := hch; refine ⟨L[j], by simp, w1, hal.1, hal.2, ?_⟩; have hi1 : w1.heap[it]? = some (.mapIter (some bm) since seen c0) := by rw [hal.1]; exact hi
   have hset : ∀ (o' : Obj), (setObj it o').run P w1 = .ok () (Go.ChangeMaps.setBlock w1 it o') := fun o' => by
     simp only [setObj, Sem.run, hi1]; rfl
   simp only [hrun, Array.getElem?_map, Array.getElem?_eq_getElem hj, Option.map_some, Sem.run_bind, hset, Result.andThen]; rfl
theorem run_entry_at (w : World) (it bm since clock : Nat) (seen : Array Nat) (es : Array MapEntry) (e : MapEntry) (hi : w.heap[it]? = some (.mapIter (some bm) since (seen.push e.born) clock)) (hb : w.heap[bm]? = some (.map es clock)) (he : e ∈ es.toList) (hn : (es.toList.map (·.born)).Nodup) :
   (Instr.entry (.pointer (some ⟨it, 0, none⟩))).run P w = .ok (.tuple #[e.key, e.val]) w := by
 have hf : es.find? (·.born == e.born) = some e := by rw [← Array.find?_toList]; exact find_born e es.toList hn he
 simp only [Instr.entry, getObj, Sem.run_bind, Sem.run, hi, hb, Result.andThen, Array.back?_push, bne_self_eq_false, Bool.false_eq_true, if_false, hf]; rfl
end
theorem blk_other {w : World} {b k : Nat} {o : Obj} (hk : k ≠ b) : (Go.ChangeMaps.setBlock w b o).heap[k]? = w.heap[k]? := by
 show (w.heap.setIfInBounds b o)[k]? = _; rw [Array.getElem?_setIfInBounds_ne (by omega)]
theorem blk_same {w : World} {b : Nat} {o : Obj} (hb : b < w.heap.size) : (Go.ChangeMaps.setBlock w b o).heap[b]? = some o := by
 show (w.heap.setIfInBounds b o)[b]? = _; rw [Array.getElem?_setIfInBounds_self_of_lt hb]
theorem blk_below {w0 w : World} {b : Nat} {o : Obj} {B : Nat} (h : Below B w0 w) (hb : B ≤ b) : Below B w0 (Go.ChangeMaps.setBlock w b o) :=
 ⟨h.os, h.tape, h.output, by have := h.size; simpa [Go.ChangeMaps.setBlock] using this, fun k hk => (blk_other (by omega)).trans (h.block k hk)⟩
theorem ent_mem {α : Type} {enc : α → Value} {val : Nat → Value} {d : α} {e : MapEntry} : ∀ {l : List α} {i : Nat}, e ∈ entsFrom enc val i l → ∃ k, k < l.length ∧ e = entAt enc val (i + k) (l.getD k d)
 | [], i, h => by cases h
 | a :: l, i, h => by
   rcases List.mem_cons.1 h with rfl | h
   · exact ⟨0, by simp, rfl⟩
   · obtain ⟨k, hk, rfl⟩ := ent_mem (d := d) h; exact ⟨k + 1, by rw [List.length_cons]; omega, by rw [List.getD_cons_succ, show i + 1 + k = i + (k + 1) by omega]⟩
/-- what reads the rest of a line -/
def fvV (g bx : Nat) : Nat → Value
 | 0 => .func (.func 23) #[.pointer (some ⟨g, 0, none⟩)] #[]
 | 1 => .func (.func 24) #[.pointer (some ⟨g, 0, none⟩)] #[]
 | 2 => .func (.func 25) #[.pointer (some ⟨g, 0, none⟩)] #[]
 | 3 => .func (.func 26) #[.pointer (some ⟨g, 0, none⟩)] #[]
 | 4 => .func (.func 27) #[.pointer (some ⟨g, 0, none⟩)] #[]
 | 5 => .func (.func 28) #[] #[.pointer (some ⟨bx, 0, none⟩)]
 | _ => .func (.func 30) #[] #[.pointer (some ⟨bx, 0, none⟩)]
/-- the words, and what reads the rest of their lines -/
abbrev WdAt (w : World) (wm g bx : Nat) : Prop := MapAt encS (fvV g bx) w wm wordsC
theorem ins_step {g bx wm : Nat} {W w0 : World} {l : List (List UInt8)} (a : List UInt8) (h : MapAt encS (fvV g bx) W wm l) (hn : findIn a 0 l = none) (hp : PBx W bx g) (hb : Below w0.heap.size w0 W) (hwm : w0.heap.size ≤ wm) :
   ∃ W', (Instr.mapUpdate 50 (.map (some wm)) (encS a) (fvV g bx l.length)).run Tryd.prog W = .ok () W' ∧ MapAt encS (fvV g bx) W' wm (l ++ [a]) ∧ PBx W' bx g ∧ Below w0.heap.size w0 W' :=
 ⟨_, run_putS Tryd.underlying9 Tryd.underlying50 a h hn, h.put a, heap_blockOther h hp (fun e => by
   have h1 := h; unfold MapAt at h1; unfold PBx at hp; rw [← e, hp] at h1
   simp at h1), below_block hb hwm ⟨_, _, h⟩⟩
set_option maxRecDepth 100000 in
set_option maxHeartbeats 4000000 in
theorem cf_words (g : Nat) (w : World) : Calls Tryd.prog 11 #[.pointer (some ⟨g, 0, none⟩)] w fun e w' => ∃ bx wm, e = .returned (.map (some wm)) ∧ w.heap.size ≤ bx ∧ w.heap.size ≤ wm ∧ bx < w'.heap.size ∧ wm < w'.heap.size ∧ PBx w' bx g ∧ WdAt w' wm g bx ∧ Below w.heap.size w w' := by
 have hmf := mkf; have hmm := @run_makeMap Tryd.prog; have hp0 : PBx ((w.alloc (.cells #[.pointer (some ⟨g, 0, none⟩)] 46)).alloc (.map #[] 0)) w.heap.size g := by
   unfold PBx; rw [Go.heap_alloc_old _ _ (by simp)]; exact Go.heap_alloc_new _ _
 have hm0 : MapAt encS (fvV g w.heap.size) ((w.alloc (.cells #[.pointer (some ⟨g, 0, none⟩)] 46)).alloc (.map #[] 0)) (w.heap.size + 1) [] := by
   have := MapAt.new (enc := encS) (val := fvV g w.heap.size) (w.alloc (.cells #[.pointer (some ⟨g, 0, none⟩)] 46)); rw [World.size_alloc] at this; exact this
 have hb0 : Below w.heap.size w ((w.alloc (.cells #[.pointer (some ⟨g, 0, none⟩)] 46)).alloc (.map #[] 0)) := ((Below.refl _ _).alloc (Nat.le_refl _) _).alloc (by simp) _; obtain ⟨W0, hW0⟩ : ∃ W0, (w.alloc (.cells #[.pointer (some ⟨g, 0, none⟩)] 46)).alloc (.map #[] 0) = W0 := ⟨_, rfl⟩; rw [hW0] at hp0 hm0 hb0; obtain ⟨W1, r1, hm1, hp1, hb1⟩ := ins_step [112, 97, 115, 115] hm0 (by decide) hp0 hb0 (by omega); obtain ⟨W2, r2, hm2, hp2, hb2⟩ := ins_step [114, 117, 108, 101, 32] hm1 (by decide) hp1 hb1 (by omega)
 obtain ⟨W3, r3, hm3, hp3, hb3⟩ := ins_step [115, 112, 108, 105, 116, 32] hm2 (by decide) hp2 hb2 (by omega); obtain ⟨W4, r4, hm4, hp4, hb4⟩ := ins_step [109, 101, 114, 103, 101, 32] hm3 (by decide) hp3 hb3 (by omega); obtain ⟨W5, r5, hm5, hp5, hb5⟩ := ins_step [110, 97, 109, 101, 32] hm4 (by decide) hp4 hb4 (by omega); obtain ⟨W6, r6, hm6, hp6, hb6⟩ := ins_step [98, 101, 102, 111, 114, 101, 32] hm5 (by decide) hp5 hb5 (by omega); obtain ⟨W7, r7, hm7, hp7, hb7⟩ := ins_step [97, 102, 116, 101, 114, 32] hm6 (by decide) hp6 hb6 (by omega); have c0 := hp0.cell; have c1 := hp1.cell
 have c2 := hp2.cell; have c3 := hp3.cell; have c4 := hp4.cell; simp only [List.length_nil, List.length_append, List.length_cons, Nat.zero_add, Nat.reduceAdd, fvV, encS] at r1 r2 r3 r4 r5 r6 r7; have HM := Lib.hid hm7; have HP := Lib.hid hp7; have HB := Lib.hid hb7; have Hsz := Lib.hid (show w.heap.size < W7.heap.size ∧ w.heap.size + 1 < W7.heap.size from ⟨hp7.lt, hm7.lt⟩); clear hp0 hp1 hp2 hp3 hp4 hp5 hp6 hp7 hm0 hm1 hm2 hm3 hm4 hm5 hm6 hm7 hb0 hb1 hb2 hb3 hb4 hb5 hb6 hb7; subst hW0; go_enter Tryd.func11, Tryd.ntmps11; wkk
 trace_state
 go_ret; exact ⟨w.heap.size, w.heap.size + 1, rfl, Nat.le_refl _, Nat.le_succ _, Hsz.out.1, Hsz.out.2, HP.out, HM.out, HB.out⟩
/-- the entries of the words -/
def wdE (g bx : Nat) : Array MapEntry := (entsFrom encS (fvV g bx) 0 wordsC).toArray
theorem wdE_mem {g bx : Nat} {e : MapEntry} (h : e ∈ (wdE g bx).toList) : ∃ k, k < 7 ∧ e = entAt encS (fvV g bx) k (wrd k) := by
 obtain ⟨k, hk, he⟩ := ent_mem (d := []) (show e ∈ entsFrom encS (fvV g bx) 0 wordsC from h); rw [Nat.zero_add] at he; exact ⟨k, hk, he⟩
theorem wdE_at (g bx : Nat) {k : Nat} (hk : k < 7) : entAt encS (fvV g bx) k (wrd k) ∈ (wdE g bx).toList := by
 show _ ∈ entsFrom encS (fvV g bx) 0 wordsC
 rcases (by omega : k = 0 ∨ k = 1 ∨ k = 2 ∨ k = 3 ∨ k = 4 ∨ k = 5 ∨ k = 6) with rfl | rfl | rfl | rfl | rfl | rfl | rfl
 all_goals simp [wordsC, entsFrom, wrd]
theorem wdE_old (g bx : Nat) : ∀ x ∈ (wdE g bx).toList, x.born < 7 := fun x hx => by
 obtain ⟨k, hk, rfl⟩ := wdE_mem hx; exact hk
theorem wdE_nodup (g bx : Nat) : ((wdE g bx).toList.map (·.born)).Nodup := by
 show ([0, 1, 2, 3, 4, 5, 6] : List Nat).Nodup
 decide
theorem wdE_size (g bx : Nat) : (leftOf (wdE g bx) #[]).size ≤ 7 := by
 unfold leftOf; exact Nat.le_trans (Array.size_filter_le ..) (Nat.le_refl _)
theorem LPs.trans {B g m : Nat} {S : ByteArray} {en bg : Nat} {w w1 : World} {x : PR CS} {e : Ending} {w' : World} (hM : Mid B g m w w1) (h : LPs B g m S en bg w1 x e w') : LPs B g m S en bg w x e w' := by
 unfold LPs at h ⊢
 cases x with
 | ok st j => exact ⟨h.1, h.2.1, hM.trans h.2.2⟩
 | bad e0 j => exact ⟨h.1, hM.trans h.2⟩
 | out => exact h
open Go.RowKit Go.Lib
theorem max_val {a n m : Nat} (h : m = max a n) : Value.int .i64 (max (a : Int) (n : Int)) = Value.int .i64 (m : Int) := by subst h; congr 1; omega
theorem LPx {B g m : Nat} {S : ByteArray} {en bg : Nat} {w : World} {x : PR CS} {n : Nat} {a : Array Value} (h : Calls Tryd.prog n a w (LPo B g m S en bg w x)) : Calls Tryd.prog n a w (LPs B g m S en bg w x) := h.mono fun _ _ h => h.less
set_option maxRecDepth 100000 in
set_option maxHeartbeats 4000000 in
theorem cf_line (B g m bx wm : Nat) (S : ByteArray) (b en F : Nat) (st : CS) (hgB : g < B) (hmg : m ≠ g) (hbB : bx < B) (hbg : bx ≠ g) (hS : S.size ≤ 65536) (hen : en ≤ S.size) (hi : b ≤ en) (hF : en < F) (hL : Lim 65536 st) (w : World) (H : SAt B g m S b en b w st) (hbx : PBx w bx g) (hwd : WdAt w wm g bx) :
   Calls Tryd.prog 15 #[.pointer (some ⟨g, 0, none⟩), .map (some wm)] w (LPs B g m S en b w (lineR S.data.toList en F b st)) := by
 obtain ⟨X, hX⟩ : ∃ X, lineR S.data.toList en F b st = X := ⟨_, rfl⟩; rw [hX]; obtain ⟨V, tb, tc, vs, hV, hp, hs⟩ := H; have HV := Lib.hid hV; have HP := Lib.hid hp; have HS := Lib.hid hs; have hBw := hs.sz; clear hV hp hs; have HBx := Lib.hid hbx; have HWd := Lib.hid hwd; have hsl := fun W => slice_str (P := Tryd.prog) (t := 9) Tryd.underlying9 S (b : Int) (en : Int) b en rfl rfl hi hen W
 have hlne : b ≠ en → ∃ c r, (S.data.toList.drop b).take (en - b) = c :: r ∧ bt S.data.toList b = c.toNat := fun h => by
   have h1 : b < S.data.toList.length := by rw [ba_len]; omega
   refine ⟨S.data.toList[b], (S.data.toList.drop (b + 1)).take (en - b - 1), ?_, ?_⟩
   · rw [List.drop_eq_getElem_cons h1]
     conv => lhs; rw [show en - b = (en - b - 1) + 1 by omega]
     rw [List.take_succ_cons]
   · unfold bt; rw [List.getD_eq_getElem?_getD, List.getElem?_eq_getElem h1]; rfl
 have hln : b = en → (S.data.toList.drop b).take (en - b) = [] := fun h => by rw [h, Nat.sub_self, List.take_zero]
 have HR := Lib.hid (fun (h0 : ¬ (b = en ∨ bt S.data.toList b = 35)) k (hk : wordsC.findIdx? (fun w => w.isPrefixOf ((S.data.toList.drop b).take (en - b))) = k) => (⟨h0, hk⟩ : _ ∧ _)); have hlen : ((S.data.toList.drop b).take (en - b)).length = en - b := by rw [List.length_take, List.length_drop, ba_len]; omega
 obtain ⟨l, hl⟩ : ∃ l, (S.data.toList.drop b).take (en - b) = l := ⟨_, rfl⟩; rw [hl] at hsl hlne hln HR hlen; have Hl := Lib.hid hl; have q0 : ∀ nq : WB w, nq.1.cell? ⟨g, 0, none⟩ = some (.string S) := fun nq => (HP.out.keep nq.2).c0
 have q1 : ∀ nq : WB w, nq.1.cell? ⟨g, 1, none⟩ = some (.int .i64 (b : Int)) := fun nq => (HP.out.keep nq.2).c1
 have q2 : ∀ nq : WB w, nq.1.cell? ⟨g, 2, none⟩ = some (.int .i64 (en : Int)) := fun nq => (HP.out.keep nq.2).c2
 clear hl hbx hwd; go_enter Tryd.func15, Tryd.ntmps15; wkk; refine wp_region_wb (by kernel_rfl) (by kernel_rfl) w (Below.refl _ _) ?_
 repeat (go_big_quiet_step ((fail)))
 refine wpQuiet_nil ?_; rintro _ ⟨nq, rfl⟩; have hnq := nq.2; have HP1 := Lib.hid (HP.out.keep hnq); have HS1 := Lib.hid (HS.out.below hnq); have HM1 : Hid (Mid B g m w nq.1) := Lib.hid (Mid.below hnq hBw); have HB1 := Lib.hid (HBx.out.keep hnq); have HW1 : Hid (WdAt nq.1 wm g bx) := Lib.hid (HWd.out.keep hnq); have hB1 := HS1.out.sz; clear q0 q1 q2 hnq HP HS HBx HWd hsl hBw
 by_cases hbe : b = en
 · have HX : Hid (X = .ok st b) := Lib.hid (by rw [← hX]; unfold lineR; rw [if_pos (.inl hbe)]); have hl0 := hln hbe; subst hl0; clear hX hlne hln HR hlen hbe; wkk; go_end0; exact LPs.okI HX.out ⟨rfl, ⟨b, V, tb, tc, vs, HV.out, HP1.out, HS1.out⟩, HM1.out⟩
 obtain ⟨c, r, hlc, hbt⟩ := hlne hbe; have hle : (l == []) = false := by rw [hlc]; rfl
 have h8 : at8 l 0 = c.toNat := by rw [hlc]; rfl
 have hl0 : 0 < l.length := by rw [hlc]; simp
 clear hlne hln
 by_cases h35 : c.toNat = 35
 · have HX : Hid (X = .ok st b) := Lib.hid (by rw [← hX]; unfold lineR; rw [if_pos (.inr (by rw [hbt]; exact h35))]); have h8' : ((at8 l 0 : Int) == 35) = true := by rw [h8, h35]; rfl
   clear hX HR hlen hbe hlc h8 h35; wkk; go_end0; exact LPs.okI HX.out ⟨rfl, ⟨b, V, tb, tc, vs, HV.out, HP1.out, HS1.out⟩, HM1.out⟩
 have h0 : ¬ (b = en ∨ bt S.data.toList b = 35) := by
   rintro (q | q)
   · exact hbe q
   · exact h35 (hbt ▸ q)
 have h8' : ((at8 l 0 : Int) == 35) = false := by rw [h8]; exact beq_false_of_ne (by omega)
 have H0 := Lib.hid h0; have HXX := Lib.hid hX; clear hX hbe hlc h8 h35 hbt h0; have hrg := run_range_map (P := Tryd.prog) nq.1 50 9 1 wm (wdE g bx) 7 Tryd.underlying50 HW1.out; wkk; have HN : Hid ((nq.1.alloc (.mapIter (some wm) 7 #[] 7)).heap[nq.1.heap.size]? = some (.mapIter (some wm) 7 #[] 7)) := Lib.hid (Go.heap_alloc_new _ _); have HA : Hid (Below nq.1.heap.size nq.1 (nq.1.alloc (.mapIter (some wm) 7 #[] 7))) := Lib.hid ((Below.refl _ _).alloc (Nat.le_refl _) _); clear hrg; obtain ⟨L, hL⟩ : ∃ L : ByteArray, (⟨l.toArray⟩ : ByteArray) = L := ⟨_, rfl⟩
 have hLl : L.data.toList = l := by rw [← hL]
 have hLs : L.size = l.length := by rw [← hLl, ba_len]
 have HLl := Lib.hid hLl; have HLs := Lib.hid hLs; simp only [hL]; clear hL hLl hLs
 go_loopg [5] 7 (fun gk s5 wr => ∃ seen : Array Nat, s5 = .int .i64 ((lng l seen : Nat) : Int) ∧ (leftOf (wdE g bx) seen).size ≤ gk ∧ Hid (∀ k, k < 7 → seen.contains k = true → (wrd k).isPrefixOf l = false) ∧ Hid (Below nq.1.heap.size nq.1 wr) ∧ Hid (wr.heap[nq.1.heap.size]? = some (.mapIter (some wm) 7 seen 7)))
 case atStart => exact ⟨#[], by rw [lng_empty]; rfl, wdE_size g bx, Lib.hid (fun k _ h => by simp at h), HA, HN⟩
 case round =>
   clear HN HA; obtain ⟨seen, rfl, hsz, HNo, HB, HI⟩ := hrel; have hWr : WdAt wr wm g bx := HW1.out.keep HB.out; have law := run_next_at (P := Tryd.prog) wr 0 nq.1.heap.size wm 7 7 seen (wdE g bx) 7 HI.out hWr (wdE_old g bx) (Nat.le_refl _); have hlg : lng l seen ≤ 7 := lng_le
   rcases law with ⟨hz, hrun⟩ | ⟨e, he, w1, hh, hbl, hrun⟩
   · have hnx : ∀ ty, (Instr.next (.pointer (some ⟨nq.1.heap.size, 0, none⟩)) false ty).run Tryd.prog wr = _ := fun _ => hrun
     have hall : ∀ k, k < 7 → seen.contains k = true := fun k hk => all_seen _ seen hz _ (wdE_at g bx hk)
     have HX : Hid (X = .bad 170 (b + lng l seen)) := Lib.hid (by
       have h2 := wrd_none (l := l) fun k hk => HNo.out k hk (hall k hk)
       rw [← HXX.out, lineR_none H0.out (by rw [Hl.out]; exact h2), Hl.out, lng_all hall])
     have hw : IntKind.i64.wrap ((b : Int) + ((lng l seen : Nat) : Int)) = ((b + lng l seen : Nat) : Int) := by rw [wi64 (by unfold I64; omega)]; omega
     have HP2 := Lib.hid (HP1.out.keep HB.out); have c1 := HP2.out.c1; generalize lng l seen = lg at hw HX ⊢; generalize b + lg = blg at hw HX; clear hall hrun hz hWr hlg; wkk; have hf := cf_fail (.pointer (some ⟨g, 0, none⟩)) 170 blg wr; refine Calls.mono hf ?_; rintro _ w2 ⟨rfl, rfl⟩; exact ⟨rfl, LPs.badI HX.out ⟨rfl, HM1.out.trans (Mid.below HB.out hB1)⟩⟩
   · obtain ⟨k, hk7, rfl⟩ := wdE_mem (mem_left he).1; have hns : seen.contains k = false := (mem_left he).2; have hshr := left_shrinks (wdE g bx) seen _ he; have hbn : (entAt encS (fvV g bx) k (wrd k)).born = k := rfl; obtain ⟨U, hU⟩ : ∃ U : ByteArray, (⟨(wrd k).toArray⟩ : ByteArray) = U := ⟨_, rfl⟩; have hUl : U.data.toList = wrd k := by rw [← hU]
     have hUs : U.size = (wrd k).length := by rw [← hUl, ba_len]
     have HUl := Lib.hid hUl; have HUs := Lib.hid hUs; have hky : (entAt encS (fvV g bx) k (wrd k)).key = .string U := by rw [← hU]; rfl
     clear hU hUl hUs; have hvl : (entAt encS (fvV g bx) k (wrd k)).val = fvV g bx k := rfl; rw [hbn, hky, hvl] at hrun; rw [hbn] at hshr; have hit : nq.1.heap.size < w1.heap.size := by rw [hh]; exact (Array.getElem?_eq_some_iff.1 HI.out).1
     have hi2 : (Go.ChangeMaps.setBlock w1 nq.1.heap.size (.mapIter (some wm) 7 (seen.push k) 7)).heap[nq.1.heap.size]? = some (.mapIter (some wm) 7 (seen.push k) 7) := blk_same hit; have hb2 : Below nq.1.heap.size nq.1 (Go.ChangeMaps.setBlock w1 nq.1.heap.size (.mapIter (some wm) 7 (seen.push k) 7)) := blk_below (HB.out.trans (hbl.mono HB.out.size)) (Nat.le_refl _); generalize Go.ChangeMaps.setBlock w1 nq.1.heap.size (.mapIter (some wm) 7 (seen.push k) 7) = W2 at hrun hi2 hb2; have hW2 : WdAt W2 wm g bx := HW1.out.keep hb2
     have hent := run_entry_at (P := Tryd.prog) W2 nq.1.heap.size wm 7 7 seen (wdE g bx) (entAt encS (fvV g bx) k (wrd k)) hi2 hW2 (wdE_at g bx hk7) (wdE_nodup g bx); rw [hky, hvl] at hent; have hnx : ∀ ty, (Instr.next (.pointer (some ⟨nq.1.heap.size, 0, none⟩)) false ty).run Tryd.prog wr = _ := fun _ => hrun
     have hpf := Tryd.strings_HasPrefix L U W2; have hpe : Lib.hasPrefix L.data.toList U.data.toList = (wrd k).isPrefixOf l := by rw [HLl.out, HUl.out]; rfl
     rw [hpe] at hpf; have HI2 := Lib.hid hi2; have HB2 := Lib.hid hb2; have HW2 := Lib.hid hW2; have Hk7 := Lib.hid hk7; have Hns := Lib.hid hns; have hul := wrd_len hk7; have HP2 := Lib.hid (HP1.out.keep hb2); clear hi2 hb2 hW2 he hh hbl hit hrun hbn hky hvl hpe hWr hk7 hns HB HI
     cases hpre : (wrd k).isPrefixOf l with
     | true =>
       rw [hpre] at hpf; have hpl : (wrd k).length ≤ l.length := (List.isPrefixOf_iff_prefix.1 hpre).length_le; have hk := HR.out H0.out _ (wrd_only Hk7.out hpre); have hbe : b + (wrd k).length ≤ en := by omega
       have hwU : IntKind.i64.wrap ((b : Int) + (U.size : Int)) = ((b + (wrd k).length : Nat) : Int) := by rw [HUs.out, wi64 (by unfold I64; omega)]; omega
       have c1 := HP2.out.c1; have f1 := HP2.out.free 1; have Hbe := Lib.hid hbe; have Hk := Lib.hid hk.2; have H00 := Lib.hid hk.1; rw [← Hl.out] at Hk; have h7 := Hk7.out; clear hpre hpl hul hbe hk HR hlen hlg
       rcases (by omega : k = 0 ∨ k = 1 ∨ k = 2 ∨ k = 3 ∨ k = 4 ∨ k = 5 ∨ k = 6) with rfl | rfl | rfl | rfl | rfl | rfl | rfl
       · have hc := fun W (hs : SAt B g m S (b + 4) en b W st) (hb : PBx W bx g) => (LPx (cf_pass B g m S (b + 4) en b st hgB hmg hL W hs))
         rw [← lineR_0 H00.out Hk.out, HXX.out] at hc; replace hwU : IntKind.i64.wrap ((b : Int) + (U.size : Int)) = ((b + 4 : Nat) : Int) := hwU; dsimp only [fvV] at hnx hent; wkk; refine Calls.mono (hpf) ?_; rintro _ wz ⟨rfl, rfl⟩; dsimp only; clear hpf; wkk; have hs3 : SAt B g m S (b + 4) en b _ st := ⟨V, tb, tc, vs, HV.out, HP2.out.set1 (b + 4), (HS1.out.below HB2.out).els ((Else.refl g wz).setCell 1 (.int .i64 ((b + 4 : Nat) : Int))) hgB (by rw [HV.out]; exact hmg)⟩
         have hb3 : PBx (wz.setCell ⟨g, 1, none⟩ (.int .i64 ((b + 4 : Nat) : Int))) bx g := (HB1.out.keep HB2.out).els ((Else.refl g wz).setCell _ _) hbg; have hM3 : Mid B g m w (wz.setCell ⟨g, 1, none⟩ (.int .i64 ((b + 4 : Nat) : Int))) := (HM1.out.trans (Mid.below HB2.out hB1)).cell (.inl rfl); have hc := hc _ hs3 hb3; have HM3 := Lib.hid hM3; clear hs3 hb3 hM3 HXX H00 Hk
         cases X with
         | out => exact Calls.mono hc (fun _ _ h => h.elim)
         | bad e0 j0 =>
           refine Calls.mono hc ?_; rintro _ w2 ⟨rfl, hM⟩; exact ⟨rfl, LPs.badI rfl ⟨rfl, HM3.out.trans hM⟩⟩
         | ok st' j0 =>
           refine Calls.mono (hc) ?_; rintro _ w5 ⟨rfl, hs, hM⟩; dsimp only; have HS5 := Lib.hid hs; have HM5 := Lib.hid (HM3.out.trans hM); clear hc hs hM; wkk; go_end0; exact LPs.okI rfl ⟨rfl, HS5.out, HM5.out⟩
       · have hc := fun W (hs : SAt B g m S (b + 5) en b W st) (hb : PBx W bx g) => (LPx (cf_rule B g m S (b + 5) en b F st hgB hmg hS hen Hbe.out hF hL W hs))
         rw [← lineR_1 H00.out Hk.out, HXX.out] at hc; replace hwU : IntKind.i64.wrap ((b : Int) + (U.size : Int)) = ((b + 5 : Nat) : Int) := hwU; dsimp only [fvV] at hnx hent; wkk; refine Calls.mono (hpf) ?_; rintro _ wz ⟨rfl, rfl⟩; dsimp only; clear hpf; wkk; have hs3 : SAt B g m S (b + 5) en b _ st := ⟨V, tb, tc, vs, HV.out, HP2.out.set1 (b + 5), (HS1.out.below HB2.out).els ((Else.refl g wz).setCell 1 (.int .i64 ((b + 5 : Nat) : Int))) hgB (by rw [HV.out]; exact hmg)⟩
         have hb3 : PBx (wz.setCell ⟨g, 1, none⟩ (.int .i64 ((b + 5 : Nat) : Int))) bx g := (HB1.out.keep HB2.out).els ((Else.refl g wz).setCell _ _) hbg; have hM3 : Mid B g m w (wz.setCell ⟨g, 1, none⟩ (.int .i64 ((b + 5 : Nat) : Int))) := (HM1.out.trans (Mid.below HB2.out hB1)).cell (.inl rfl); have hc := hc _ hs3 hb3; have HM3 := Lib.hid hM3; clear hs3 hb3 hM3 HXX H00 Hk
         cases X with
         | out => exact Calls.mono hc (fun _ _ h => h.elim)
         | bad e0 j0 =>
           refine Calls.mono hc ?_; rintro _ w2 ⟨rfl, hM⟩; exact ⟨rfl, LPs.badI rfl ⟨rfl, HM3.out.trans hM⟩⟩
         | ok st' j0 =>
           refine Calls.mono (hc) ?_; rintro _ w5 ⟨rfl, hs, hM⟩; dsimp only; have HS5 := Lib.hid hs; have HM5 := Lib.hid (HM3.out.trans hM); clear hc hs hM; wkk; go_end0; exact LPs.okI rfl ⟨rfl, HS5.out, HM5.out⟩
       · have hc := fun W (hs : SAt B g m S (b + 6) en b W st) (hb : PBx W bx g) => (cf_expr B g m S (b + 6) en b st hgB hmg hS hen Hbe.out W hs)
         rw [← lineR_2 H00.out Hk.out, HXX.out] at hc; replace hwU : IntKind.i64.wrap ((b : Int) + (U.size : Int)) = ((b + 6 : Nat) : Int) := hwU; dsimp only [fvV] at hnx hent; wkk; refine Calls.mono (hpf) ?_; rintro _ wz ⟨rfl, rfl⟩; dsimp only; clear hpf; wkk; have hs3 : SAt B g m S (b + 6) en b _ st := ⟨V, tb, tc, vs, HV.out, HP2.out.set1 (b + 6), (HS1.out.below HB2.out).els ((Else.refl g wz).setCell 1 (.int .i64 ((b + 6 : Nat) : Int))) hgB (by rw [HV.out]; exact hmg)⟩
         have hb3 : PBx (wz.setCell ⟨g, 1, none⟩ (.int .i64 ((b + 6 : Nat) : Int))) bx g := (HB1.out.keep HB2.out).els ((Else.refl g wz).setCell _ _) hbg; have hM3 : Mid B g m w (wz.setCell ⟨g, 1, none⟩ (.int .i64 ((b + 6 : Nat) : Int))) := (HM1.out.trans (Mid.below HB2.out hB1)).cell (.inl rfl); have hc := hc _ hs3 hb3; have HM3 := Lib.hid hM3; clear hs3 hb3 hM3 HXX H00 Hk
         cases X with
         | out => exact Calls.mono hc (fun _ _ h => h.elim)
         | bad e0 j0 =>
           refine Calls.mono hc ?_; rintro _ w2 ⟨rfl, hM⟩; exact ⟨rfl, LPs.badI rfl ⟨rfl, HM3.out.trans hM⟩⟩
         | ok st' j0 =>
           refine Calls.mono (hc) ?_; rintro _ w5 ⟨rfl, hs, hM⟩; dsimp only; have HS5 := Lib.hid hs; have HM5 := Lib.hid (HM3.out.trans hM); clear hc hs hM; wkk; go_end0; exact LPs.okI rfl ⟨rfl, HS5.out, HM5.out⟩
       · have hc := fun W (hs : SAt B g m S (b + 6) en b W st) (hb : PBx W bx g) => (LPx (cf_merge B g m S (b + 6) en b F st hgB hmg hS hen Hbe.out hF hL W hs))
         rw [← lineR_3 H00.out Hk.out, HXX.out] at hc; replace hwU : IntKind.i64.wrap ((b : Int) + (U.size : Int)) = ((b + 6 : Nat) : Int) := hwU; dsimp only [fvV] at hnx hent; wkk; refine Calls.mono (hpf) ?_; rintro _ wz ⟨rfl, rfl⟩; dsimp only; clear hpf; wkk; have hs3 : SAt B g m S (b + 6) en b _ st := ⟨V, tb, tc, vs, HV.out, HP2.out.set1 (b + 6), (HS1.out.below HB2.out).els ((Else.refl g wz).setCell 1 (.int .i64 ((b + 6 : Nat) : Int))) hgB (by rw [HV.out]; exact hmg)⟩
         have hb3 : PBx (wz.setCell ⟨g, 1, none⟩ (.int .i64 ((b + 6 : Nat) : Int))) bx g := (HB1.out.keep HB2.out).els ((Else.refl g wz).setCell _ _) hbg; have hM3 : Mid B g m w (wz.setCell ⟨g, 1, none⟩ (.int .i64 ((b + 6 : Nat) : Int))) := (HM1.out.trans (Mid.below HB2.out hB1)).cell (.inl rfl); have hc := hc _ hs3 hb3; have HM3 := Lib.hid hM3; clear hs3 hb3 hM3 HXX H00 Hk
         cases X with
         | out => exact Calls.mono hc (fun _ _ h => h.elim)
         | bad e0 j0 =>
           refine Calls.mono hc ?_; rintro _ w2 ⟨rfl, hM⟩; exact ⟨rfl, LPs.badI rfl ⟨rfl, HM3.out.trans hM⟩⟩
         | ok st' j0 =>
           refine Calls.mono (hc) ?_; rintro _ w5 ⟨rfl, hs, hM⟩; dsimp only; have HS5 := Lib.hid hs; have HM5 := Lib.hid (HM3.out.trans hM); clear hc hs hM; wkk; go_end0; exact LPs.okI rfl ⟨rfl, HS5.out, HM5.out⟩
       · have hc := fun W (hs : SAt B g m S (b + 5) en b W st) (hb : PBx W bx g) => (LPx (cf_name B g m S (b + 5) en b F st hgB hmg hS hen Hbe.out hF hL W hs))
         rw [← lineR_4 H00.out Hk.out, HXX.out] at hc; replace hwU : IntKind.i64.wrap ((b : Int) + (U.size : Int)) = ((b + 5 : Nat) : Int) := hwU; dsimp only [fvV] at hnx hent; wkk; refine Calls.mono (hpf) ?_; rintro _ wz ⟨rfl, rfl⟩; dsimp only; clear hpf; wkk; have hs3 : SAt B g m S (b + 5) en b _ st := ⟨V, tb, tc, vs, HV.out, HP2.out.set1 (b + 5), (HS1.out.below HB2.out).els ((Else.refl g wz).setCell 1 (.int .i64 ((b + 5 : Nat) : Int))) hgB (by rw [HV.out]; exact hmg)⟩
         have hb3 : PBx (wz.setCell ⟨g, 1, none⟩ (.int .i64 ((b + 5 : Nat) : Int))) bx g := (HB1.out.keep HB2.out).els ((Else.refl g wz).setCell _ _) hbg; have hM3 : Mid B g m w (wz.setCell ⟨g, 1, none⟩ (.int .i64 ((b + 5 : Nat) : Int))) := (HM1.out.trans (Mid.below HB2.out hB1)).cell (.inl rfl); have hc := hc _ hs3 hb3; have HM3 := Lib.hid hM3; clear hs3 hb3 hM3 HXX H00 Hk
         cases X with
         | out => exact Calls.mono hc (fun _ _ h => h.elim)
         | bad e0 j0 =>
           refine Calls.mono hc ?_; rintro _ w2 ⟨rfl, hM⟩; exact ⟨rfl, LPs.badI rfl ⟨rfl, HM3.out.trans hM⟩⟩
         | ok st' j0 =>
           refine Calls.mono (hc) ?_; rintro _ w5 ⟨rfl, hs, hM⟩; dsimp only; have HS5 := Lib.hid hs; have HM5 := Lib.hid (HM3.out.trans hM); clear hc hs hM; wkk; go_end0; exact LPs.okI rfl ⟨rfl, HS5.out, HM5.out⟩
       · have hc := fun W (hs : SAt B g m S (b + 7) en b W st) (hb : PBx W bx g) => (LPx (cf_before B g m bx S (b + 7) en b F st hgB hmg hbB hbg hS hen Hbe.out hF hL W hs hb))
         rw [← lineR_5 H00.out Hk.out, HXX.out] at hc; replace hwU : IntKind.i64.wrap ((b : Int) + (U.size : Int)) = ((b + 7 : Nat) : Int) := hwU; dsimp only [fvV] at hnx hent; wkk; refine Calls.mono (hpf) ?_; rintro _ wz ⟨rfl, rfl⟩; dsimp only; clear hpf; wkk; have hs3 : SAt B g m S (b + 7) en b _ st := ⟨V, tb, tc, vs, HV.out, HP2.out.set1 (b + 7), (HS1.out.below HB2.out).els ((Else.refl g wz).setCell 1 (.int .i64 ((b + 7 : Nat) : Int))) hgB (by rw [HV.out]; exact hmg)⟩
         have hb3 : PBx (wz.setCell ⟨g, 1, none⟩ (.int .i64 ((b + 7 : Nat) : Int))) bx g := (HB1.out.keep HB2.out).els ((Else.refl g wz).setCell _ _) hbg; have hM3 : Mid B g m w (wz.setCell ⟨g, 1, none⟩ (.int .i64 ((b + 7 : Nat) : Int))) := (HM1.out.trans (Mid.below HB2.out hB1)).cell (.inl rfl); have hc := hc _ hs3 hb3; have HM3 := Lib.hid hM3; clear hs3 hb3 hM3 HXX H00 Hk
         cases X with
         | out => exact Calls.mono hc (fun _ _ h => h.elim)
         | bad e0 j0 =>
           refine Calls.mono hc ?_; rintro _ w2 ⟨rfl, hM⟩; exact ⟨rfl, LPs.badI rfl ⟨rfl, HM3.out.trans hM⟩⟩
         | ok st' j0 =>
           refine Calls.mono (hc) ?_; rintro _ w5 ⟨rfl, hs, hM⟩; dsimp only; have HS5 := Lib.hid hs; have HM5 := Lib.hid (HM3.out.trans hM); clear hc hs hM; wkk; go_end0; exact LPs.okI rfl ⟨rfl, HS5.out, HM5.out⟩
       · have hc := fun W (hs : SAt B g m S (b + 6) en b W st) (hb : PBx W bx g) => (LPx (cf_after B g m bx S (b + 6) en b F st hgB hmg hbB hbg hS hen Hbe.out hF hL W hs hb))
         rw [← lineR_6 H00.out Hk.out, HXX.out] at hc; replace hwU : IntKind.i64.wrap ((b : Int) + (U.size : Int)) = ((b + 6 : Nat) : Int) := hwU; dsimp only [fvV] at hnx hent; wkk; refine Calls.mono (hpf) ?_; rintro _ wz ⟨rfl, rfl⟩; dsimp only; clear hpf; wkk; have hs3 : SAt B g m S (b + 6) en b _ st := ⟨V, tb, tc, vs, HV.out, HP2.out.set1 (b + 6), (HS1.out.below HB2.out).els ((Else.refl g wz).setCell 1 (.int .i64 ((b + 6 : Nat) : Int))) hgB (by rw [HV.out]; exact hmg)⟩
         have hb3 : PBx (wz.setCell ⟨g, 1, none⟩ (.int .i64 ((b + 6 : Nat) : Int))) bx g := (HB1.out.keep HB2.out).els ((Else.refl g wz).setCell _ _) hbg; have hM3 : Mid B g m w (wz.setCell ⟨g, 1, none⟩ (.int .i64 ((b + 6 : Nat) : Int))) := (HM1.out.trans (Mid.below HB2.out hB1)).cell (.inl rfl); have hc := hc _ hs3 hb3; have HM3 := Lib.hid hM3; clear hs3 hb3 hM3 HXX H00 Hk
         cases X with
         | out => exact Calls.mono hc (fun _ _ h => h.elim)
         | bad e0 j0 =>
           refine Calls.mono hc ?_; rintro _ w2 ⟨rfl, hM⟩; exact ⟨rfl, LPs.badI rfl ⟨rfl, HM3.out.trans hM⟩⟩
         | ok st' j0 =>
           refine Calls.mono (hc) ?_; rintro _ w5 ⟨rfl, hs, hM⟩; dsimp only; have HS5 := Lib.hid hs; have HM5 := Lib.hid (HM3.out.trans hM); clear hc hs hM; wkk; go_end0; exact LPs.okI rfl ⟨rfl, HS5.out, HM5.out⟩
     | false =>
       rw [hpre] at hpf; have HNo2 : Hid (∀ j, j < 7 → (seen.push k).contains j = true → (wrd j).isPrefixOf l = false) := Lib.hid fun j hj h => by
         rw [Array.contains_push] at h
         rcases Bool.or_eq_true _ _ ▸ h with h | h
         · exact HNo.out j hj h
         · rw [beq_iff_eq.1 h]; exact hpre
       have Hlp := Lib.hid (lng_push (l := l) Hk7.out Hns.out); obtain ⟨z, hz⟩ : ∃ z, (leftOf (wdE g bx) (seen.push k)).size = z := ⟨_, rfl⟩; have Hz := Lib.hid hz; have hzk : z < gk := by omega
       clear hz hshr hsz; clear hpre HNo; generalize wrd k = u at hul Hlp HUl HUs; generalize fvV g bx k = vf at hent hnx; wkk; refine Calls.mono (hpf) ?_; rintro _ wz ⟨rfl, rfl⟩; dsimp only; clear hpf hent hnx; wkk
       go_loopg [8] u.length (fun gk2 s8 wr2 => ∃ n : Nat, s8 = .int .i64 (n : Int) ∧ n ≤ u.length ∧ u.length - n ≤ gk2 ∧ Hid (agreeN (u.drop n) (l.drop n) + n = agreeN u l) ∧ Hid (Below wz.heap.size wz wr2))
       case atStart => exact ⟨0, rfl, Nat.zero_le _, Nat.le_refl _, Lib.hid (by simp), Lib.hid (Below.refl _ _)⟩
       case round =>
         obtain ⟨n, rfl, hnu, hgk2, HAg, HBz⟩ := hrel; have hls := HLs.out; have hus := HUs.out
         by_cases hn1 : n < l.length
         · have hn1' : (n : Int) < L.size := by omega
           by_cases hn2 : n < u.length
           · have hn2' : (n : Int) < U.size := by omega
             have hx := byte_is L n (by omega); have hy := byte_is U n (by omega); rw [HLl.out] at hx; rw [HUl.out] at hy
             by_cases hxy : bt u n = bt l n
             · have hb : (((bt l n : Nat) : Int) == ((bt u n : Nat) : Int)) = true := by rw [hxy]; simp
               have HAg2 : Hid (agreeN (u.drop (n + 1)) (l.drop (n + 1)) + (n + 1) = agreeN u l) := Lib.hid (by rw [← HAg.out, agree_go hn2 hn1 hxy]; omega); clear HAg hxy hls hus; wkk; refine wp_region_wb (by kernel_rfl) (by kernel_rfl) wr (Below.refl _ _) ?_
               repeat (go_big_quiet_step ((fail)))
               refine wpQuiet_nil ?_; rintro _ ⟨nq, rfl⟩; have hnq := nq.2; have HBy := Lib.hid (HBz.out.trans (hnq.mono HBz.out.size)); clear hnq hb hx hy; wkk; go_roundg (gk - 1)
               case rel => exact ⟨n + 1, by go_num, by have := HUs.out; omega, by omega, HAg2, HBy⟩
               case measure => omega
             · have hb : (((bt l n : Nat) : Int) == ((bt u n : Nat) : Int)) = false := beq_false_of_ne (by omega); have Hn : Hid (n = agreeN u l) := Lib.hid (by rw [← HAg.out, agree_no (.inr (.inr hxy))]; omega); clear HAg hxy hgk2 hls hus; wkk; refine wp_region_wb (by kernel_rfl) (by kernel_rfl) wr (Below.refl _ _) ?_
               repeat (go_big_quiet_step ((fail)))
               refine wpQuiet_nil ?_; rintro _ ⟨nq, rfl⟩; have hnq := nq.2; have HBy := Lib.hid (HBz.out.trans (hnq.mono HBz.out.size)); clear hnq hb hx hy; wkk; go_roundg z
               case rel => exact ⟨seen.push k, max_val (by rw [Hlp.out, ← Hn.out]), Nat.le_of_eq Hz.out, HNo2, Lib.hid (HB2.out.trans (HBy.out.mono HB2.out.size)), Lib.hid ((HBy.out.block _ (Array.getElem?_eq_some_iff.1 HI2.out).1).trans HI2.out)⟩
               case measure => exact hzk
           · have hn2' : ¬ (n : Int) < U.size := by omega
             have Hn : Hid (n = agreeN u l) := Lib.hid (by rw [← HAg.out, agree_no (.inl hn2)]; omega); clear HAg hgk2 hls hus; wkk; refine wp_region_wb (by kernel_rfl) (by kernel_rfl) wr (Below.refl _ _) ?_
             repeat (go_big_quiet_step ((fail)))
             refine wpQuiet_nil ?_; rintro _ ⟨nq, rfl⟩; have hnq := nq.2; have HBy := Lib.hid (HBz.out.trans (hnq.mono HBz.out.size)); clear hnq; wkk; go_roundg z
             case rel => exact ⟨seen.push k, max_val (by rw [Hlp.out, ← Hn.out]), Nat.le_of_eq Hz.out, HNo2, Lib.hid (HB2.out.trans (HBy.out.mono HB2.out.size)), Lib.hid ((HBy.out.block _ (Array.getElem?_eq_some_iff.1 HI2.out).1).trans HI2.out)⟩
             case measure => exact hzk
         · have hn1' : ¬ (n : Int) < L.size := by omega
           have Hn : Hid (n = agreeN u l) := Lib.hid (by rw [← HAg.out, agree_no (.inr (.inl hn1))]; omega); clear HAg hgk2 hls hus; wkk; refine wp_region_wb (by kernel_rfl) (by kernel_rfl) wr (Below.refl _ _) ?_
           repeat (go_big_quiet_step ((fail)))
           refine wpQuiet_nil ?_; rintro _ ⟨nq, rfl⟩; have hnq := nq.2; have HBy := Lib.hid (HBz.out.trans (hnq.mono HBz.out.size)); clear hnq; wkk; go_roundg z
           case rel => exact ⟨seen.push k, max_val (by rw [Hlp.out, ← Hn.out]), Nat.le_of_eq Hz.out, HNo2, Lib.hid (HB2.out.trans (HBy.out.mono HB2.out.size)), Lib.hid ((HBy.out.block _ (Array.getElem?_eq_some_iff.1 HI2.out).1).trans HI2.out)⟩
           case measure => exact hzk
open Go.RowKit Go.Lib
theorem info_cfp : (Tryd.prog.info? 36).map (·.size) = some 13 := by kernel_rfl
/-- nothing -/
def cvZ : CV := ⟨reZ, .slice none 0 0, .slice none 0 0, .slice none 0 0, .slice none 0 0, .slice none 0 0, false, 0⟩
abbrev cfV (V : CV) : Value := .agg (cfC V.r V.p V.m V.n V.b V.a)
/-- each part is one cell -/
def One6 (V : CV) : Prop := V.r.v.oneCell' = true ∧ V.p.oneCell' = true ∧ V.m.oneCell' = true ∧ V.n.oneCell' = true ∧ V.b.oneCell' = true ∧ V.a.oneCell' = true
/-- Parse's three results, each in its variable -/
structure PC (B b2 b3 b4 : Nat) (w0 : World) (V : CV) (er at' : Int) (W : World) : Prop where
 c : CBox W b2 V.r V.p V.m V.n V.b V.a
 e : IB W b3 37 er
 a : IB W b4 3 at'
 bel : Below B w0 W
 lt : B ≤ b2 ∧ b2 < b3 ∧ b3 < b4
theorem PC.keep {B b2 b3 b4 : Nat} {w0 W W' : World} {V : CV} {er at' : Int} (h : PC B b2 b3 b4 w0 V er at' W) (hb : Below W.heap.size W W') : PC B b2 b3 b4 w0 V er at' W' :=
 ⟨h.c.keep hb, h.e.keep hb, h.a.keep hb, h.bel.trans (hb.mono (by have := h.c.lt; have := h.lt; omega)), h.lt⟩
section
variable {B b2 b3 b4 : Nat} {w0 W : World} {V : CV} {er at' : Int}
theorem PC.setC (h : PC B b2 b3 b4 w0 V er at' W) (V' : CV) : PC B b2 b3 b4 w0 V' er at' (W.setRow b2 (cfC V'.r V'.p V'.m V'.n V'.b V'.a)) :=
 ⟨setRow_heap _ _ _ _ _ _ h.c, h.e.row (by have := h.lt; omega), h.a.row (by have := h.lt; omega), Below.row h.bel (by have := h.lt; omega) _, h.lt⟩
theorem CBox.cellOther {w : World} {g q o : Nat} {u : Value} {r : RN} {vp vm vn vb va : Value} (h : CBox w g r vp vm vn vb va) (hq : g ≠ q) : CBox (w.setCell ⟨q, o, none⟩ u) g r vp vm vn vb va := by
 unfold CBox; rw [show (w.setCell ⟨q, o, none⟩ u).heap[g]? = w.heap[g]? from Below.heap_setCell _ _ _ _ (by dsimp only; omega)]; exact h
theorem PC.setE (h : PC B b2 b3 b4 w0 V er at' W) (n : Int) : PC B b2 b3 b4 w0 V n at' (W.setCell ⟨b3, 0, none⟩ (.int .i64 n)) :=
 ⟨h.c.cellOther (by have := h.lt; omega), h.e.set n, h.a.other (by have := h.lt; omega), h.bel.setCell (by dsimp only; have := h.lt; omega) _, h.lt⟩
theorem PC.setA (h : PC B b2 b3 b4 w0 V er at' W) (n : Int) : PC B b2 b3 b4 w0 V er n (W.setCell ⟨b4, 0, none⟩ (.int .i64 n)) :=
 ⟨h.c.cellOther (by have := h.lt; omega), h.e.other (by have := h.lt; omega), h.a.set n, h.bel.setCell (by dsimp only; have := h.lt; omega) _, h.lt⟩
theorem PC.mid {W' : World} {g m : Nat} {B' : Nat} (h : PC B b2 b3 b4 w0 V er at' W) (hM : Mid B' g m W W') (hB : b4 < B') (hg : b4 < g) (hm : b4 < m) : PC B b2 b3 b4 w0 V er at' W' := by
 have hl := h.lt; refine ⟨?_, ?_, ?_, ⟨hM.os.trans h.bel.os, hM.tape.trans h.bel.tape, hM.output.trans h.bel.output, Nat.le_trans h.bel.size hM.size, fun k hk => (hM.block k (by omega) (by omega) (by omega)).trans (h.bel.block k hk)⟩, h.lt⟩
 · have := h.c; unfold CBox at this ⊢; rw [hM.block b2 (by omega) (by omega) (by omega)]; exact this
 · have := h.e; unfold IB at this ⊢; rw [hM.block b3 (by omega) (by omega) (by omega)]; exact this
 · have := h.a; unfold IB at this ⊢; rw [hM.block b4 (by omega) (by omega) (by omega)]; exact this
theorem store_cbox {o : Oper} {a : Act} {w : World} {K : Act → World → Prop} {Q : Exit → Act → World → Prop} {b : Nat} {r : RN} {vp vm vn vb va : Value} (hs : CBox w b r vp vm vn vb va) (V : CV) (hV : One6 V) (x y : Operand) (ho : o.op = .store 36 x y)
   (hx : a.eval x = .pointer (some ⟨b, 0, none⟩)) (hy : a.eval y = cfV V) (h : K (a.put o.dst undef) (w.setRow b (cfC V.r V.p V.m V.n V.b V.a))) : o.wp Tryd.prog a w K Q :=
 wp_store_row _ x y ho b (cfC V.r V.p V.m V.n V.b V.a) hx hy 36 _ hs info_cfp rfl (by
   obtain ⟨h1, h2, h3, h4, h5, h6⟩ := hV; have h7 : ∀ (k : IntKind) (n : Int), (Value.int k n).oneCell' = true := fun _ _ => rfl
   simp [cfC, h1, h2, h3, h4, h5, h6, h7]) h
/-- the box of what was thrown -/
def CSB (W : World) (b : Nat) (e j : Int) : Prop := W.heap[b]? = some (.cells #[.int .i64 e, .int .i64 j] 45 (0, 0))
theorem CSB.c0 {b : Nat} {e j : Int} (h : CSB W b e j) : W.cell? ⟨b, 0, none⟩ = some (.int .i64 e) := by rw [cell_of_row W b 0 _ _ _ h]; rfl
theorem CSB.c1 {b : Nat} {e j : Int} (h : CSB W b e j) : W.cell? ⟨b, 1, none⟩ = some (.int .i64 j) := by rw [cell_of_row W b 1 _ _ _ h]; rfl
theorem CSB.row {b q : Nat} {e j : Int} {cs : Array Value} (h : CSB W b e j) (hq : b ≠ q) : CSB (W.setRow q cs) b e j := by unfold CSB; rw [setRow_other _ _ _ _ hq]; exact h
theorem CSB.other {b q o : Nat} {e j : Int} {u : Value} (h : CSB W b e j) (hq : b ≠ q) : CSB (W.setCell ⟨q, o, none⟩ u) b e j := by
 unfold CSB; rw [show (W.setCell ⟨q, o, none⟩ u).heap[b]? = W.heap[b]? from Below.heap_setCell _ _ _ _ (by dsimp only; omega)]; exact h
end
theorem as_cstop (v : Value) (w : World) : (Instr.typeAssert (.iface 45 v) 20 45 false).run Tryd.prog w = .ok v w := by kernel_rfl
set_option maxRecDepth 100000 in
theorem cdoor_panicking (B b2 b3 b4 : Nat) (w0 : World) (V : CV) (er at' : Int) (e j : Nat) (older : List PanicEntry) (w : World) (h : PC B b2 b3 b4 w0 V er at' w) :
   CallsD Tryd.prog 10 #[.pointer (some ⟨b2, 0, none⟩), .pointer (some ⟨b3, 0, none⟩), .pointer (some ⟨b4, 0, none⟩)] (.panicking ({ v := .iface 45 (.agg #[.int .i64 (e : Int), .int .i64 (j : Int)]), recovered := false } :: older)) w fun e' u' w' =>
     e' = .returned (.tuple #[]) ∧ u' = .panicking ({ v := .iface 45 (.agg #[.int .i64 (e : Int), .int .i64 (j : Int)]), recovered := true } :: older) ∧ PC B b2 b3 b4 w0 cvZ e j w' := by
 refine callsD_of_wpS Tryd.func10 rfl fun c₀ cs hu => ?_
 apply wpS_seq; apply wpS_region
 simp [wpOpsS, go_sem, recoverD, hu, Tryd.ntmps10, Exit.thenS]
 refine wpS_of_wp ?_; have H := Lib.hid h; clear h hu; obtain ⟨Z, hV⟩ : ∃ Z, Z = Value.iface 45 (.agg #[.int .i64 (e : Int), .int .i64 (j : Int)]) := ⟨_, rfl⟩; have ha : (#[Value.pointer (some ⟨b2, 0, none⟩), .pointer (some ⟨b3, 0, none⟩), .pointer (some ⟨b4, 0, none⟩)] ++ ((Array.replicate 12 undef).setIfInBounds 2 Z).setIfInBounds 0 Z) = #[Value.pointer (some ⟨b2, 0, none⟩), .pointer (some ⟨b3, 0, none⟩), .pointer (some ⟨b4, 0, none⟩), Z, undef, Z, undef, undef, undef, undef, undef, undef, undef, undef, undef] := rfl; rw [hV] at ha; rw [ha]; clear ha hV Z
 have has := fun v w => as_cstop v w
 wkk; have hk := (Below.refl w.heap.size w).alloc (Nat.le_refl _) (.cells #[.int .i64 (e : Int), .int .i64 (j : Int)] 45); have HP := Lib.hid (H.out.keep hk); have HS : Hid (CSB (w.alloc (.cells #[.int .i64 (e : Int), .int .i64 (j : Int)] 45)) w.heap.size e j) := Lib.hid (Go.heap_alloc_new _ _); have hlt : b4 < w.heap.size ∧ b2 < b3 ∧ b3 < b4 := ⟨H.out.a.lt, H.out.lt.2.1, H.out.lt.2.2⟩; clear hk H has; generalize w.alloc (.cells #[.int .i64 (e : Int), .int .i64 (j : Int)] 45) = w5 at HP HS ⊢; generalize w.heap.size = b5 at HS hlt ⊢
 obtain ⟨C, hC⟩ : ∃ C : World → Prop, C = fun W => CSB W b5 e j := ⟨_, rfl⟩
 have Hmk : Hid (∀ W, CSB W b5 e j → C W) := Lib.hid (fun W h => by rw [hC]; exact h); have hC' : ∀ W, C W → CSB W b5 e j := fun W h => by rw [hC] at h; exact h
 have q0 : ∀ nq : GW C, nq.1.cell? ⟨b5, 0, none⟩ = some (.int .i64 (e : Int)) := fun nq => (hC' _ nq.2).c0
 have q1 : ∀ nq : GW C, nq.1.cell? ⟨b5, 1, none⟩ = some (.int .i64 (j : Int)) := fun nq => (hC' _ nq.2).c1
 clear hC hC'; refine wp_region_anyD (by kernel_rfl) C ?_; refine tkC 0 rfl ?_; refine tkC 1 rfl ?_; refine tkC 2 rfl ?_; refine tkC 3 rfl ?_; refine tkC 4 rfl ?_; refine genCd (fun W => PC B b2 b3 b4 w0 V er at' W ∧ CSB W b5 e j) ⟨HP.out.keep (Below.refl _ _).drew, HS.out⟩ ?_; clear q0 q1 HP HS; intro W0 ⟨hp, hs⟩; refine wpAnyC_ready (CG.of (Hmk.out _ hs)) (rs := [5]) (by kernel_rfl) (by simp) ?_; refine (AllReadyC.cons rfl (fun K hK => ?_) AllReadyC.nil); refine step_of rfl (store_cbox hp.c cvZ ⟨rfl, rfl, rfl, rfl, rfl, rfl⟩ _ _ rfl rfl rfl ?_); refine hK _ _ ?_; clear hK K
 refine genCd (fun W => PC B b2 b3 b4 w0 cvZ er at' W ∧ CSB W b5 e j) ⟨hp.setC cvZ, hs.row (by omega)⟩ ?_; clear hp hs W0; intro W0 ⟨hp, hs⟩; have d1 := hp.e.cell; have f1 := hp.e.free 0; refine wpAnyC_ready (CG.of (Hmk.out _ hs)) (rs := [6]) (by kernel_rfl) (by simp) ?_; refine (AllReadyC.cons rfl (fun K hK => ?_) AllReadyC.nil); go_simp; refine hK _ _ ?_; clear hK K; refine genCd (fun W => PC B b2 b3 b4 w0 cvZ e at' W ∧ CSB W b5 e j) ⟨hp.setE e, hs.other (by omega)⟩ ?_; clear d1 f1 hp hs W0; intro W0 ⟨hp, hs⟩; have d1 := hp.a.cell; have f1 := hp.a.free 0
 refine wpAnyC_ready (CG.of (Hmk.out _ hs)) (rs := [7]) (by kernel_rfl) (by simp) ?_; refine (AllReadyC.cons rfl (fun K hK => ?_) AllReadyC.nil); go_simp; refine hK _ _ ?_; clear hK K; refine genCd (fun W => PC B b2 b3 b4 w0 cvZ e j W ∧ CSB W b5 e j) ⟨hp.setA j, hs.other (by omega)⟩ ?_; clear d1 f1 hp hs W0; intro W0 ⟨hp, hs⟩; refine wpAnyC_done (by kernel_rfl) (CG.of (Hmk.out _ hs)) (by go_simp <;> with_reducible rfl) ?_; have HP := Lib.hid hp; clear hp hs; wkk; exact ⟨rfl, _, rfl, .tuple #[], results_none rfl _ _ _, rfl, rfl, HP.out⟩
set_option maxRecDepth 100000 in
theorem cdoor_idle (p2 p3 p4 : Value) (w : World) :
   CallsD Tryd.prog 10 #[p2, p3, p4] .returning w fun e' u' w' => e' = .returned (.tuple #[]) ∧ u' = .returning ∧ w' = w := by
 refine callsD_of_wpS Tryd.func10 rfl fun c₀ cs hu => ?_
 apply wpS_seq; apply wpS_region
 simp [wpOpsS, go_sem, recoverD, hu, Tryd.ntmps10, Exit.thenS]
 refine wpS_of_wp ?_; have ha : (#[p2, p3, p4] ++ ((Array.replicate 12 undef).setIfInBounds 2 Value.nilIface).setIfInBounds 0 Value.nilIface) = #[p2, p3, p4, Value.nilIface, undef, Value.nilIface, undef, undef, undef, undef, undef, undef, undef, undef, undef] := rfl; rw [ha]; clear ha; wkk; refine ⟨rfl, .returning, ?_, .tuple #[], results_none rfl _ _ _, rfl, rfl, rfl⟩; rw [← hu]
open Go.RowKit Go.Lib
theorem idx_take (c : UInt8) : ∀ l : List UInt8, (Lib.indexByte l c = -1 ∧ (l.takeWhile (· != c)).length = l.length) ∨ (Lib.indexByte l c = ((l.takeWhile (· != c)).length : Int) ∧ (l.takeWhile (· != c)).length < l.length)
 | [] => .inl ⟨rfl, rfl⟩
 | b :: l => by
   have ih := idx_take c l; rw [Lib.indexByte]
   by_cases h : b = c
   · right
     have h1 : (b == c) = true := by rw [h]; simp
     have h2 : (b != c) = false := by rw [h]; simp
     rw [if_pos h1, List.takeWhile_cons, h2]
     simp
   · have h1 : (b == c) = false := beq_false_of_ne h; have h2 : (b != c) = true := bne_iff_ne.2 h; rw [h1, List.takeWhile_cons, h2]; simp only [Bool.false_eq_true, if_false, if_true, List.length_cons]
     rcases ih with ⟨e1, e2⟩ | ⟨e1, e2⟩
     · left
       rw [e1, e2]; exact ⟨rfl, rfl⟩
     · right
       have e3 : (Lib.indexByte l c == -1) = false := beq_false_of_ne (by rw [e1]; omega); rw [e3, e1]; simp only [Bool.false_eq_true, if_false]; exact ⟨by omega, by omega⟩
/-- where a line ends, as it is asked -/
theorem endL_idx {s : List UInt8} {i : Nat} (hi : i ≤ s.length) : (Lib.indexByte (s.drop i) 10 < 0 ∧ endL s i = s.length) ∨ (0 ≤ Lib.indexByte (s.drop i) 10 ∧ (i : Int) + Lib.indexByte (s.drop i) 10 = (endL s i : Int) ∧ endL s i < s.length) := by
 unfold endL
 rcases idx_take 10 (s.drop i) with ⟨e1, e2⟩ | ⟨e1, e2⟩
 · left
   rw [e1, e2, List.length_drop]; exact ⟨by omega, by omega⟩
 · right
   rw [List.length_drop] at e2; rw [e1]; exact ⟨by omega, by omega, by omega⟩
theorem endL_le {s : List UInt8} {i : Nat} (hi : i ≤ s.length) : i ≤ endL s i ∧ endL s i ≤ s.length := by
 refine ⟨by unfold endL; omega, ?_⟩
 rcases endL_idx hi with ⟨_, h⟩ | ⟨_, _, h⟩ <;> omega
theorem bindI {α β : Type} {x : PR α} {f : α → Nat → PR β} {b : β} {j : Nat} (h : x.bind f = .ok b j) : ∃ a i, x = .ok a i ∧ f a i = .ok b j := by
 cases x with
 | ok a i => exact ⟨a, i, rfl, h⟩
 | bad e i => cases h
 | out => cases h
theorem Lim.up {n m : Nat} {st : CS} (h : Lim n st) (hn : n ≤ m) : Lim m st :=
 ⟨Nat.le_trans h.lp hn, fun l hl => Nat.le_trans (h.lr l hl) hn, Nat.le_trans h.lm hn, Nat.le_trans h.ln hn, Nat.le_trans h.lb hn, Nat.le_trans h.la hn⟩
theorem len1 {α : Type} (l : List α) (x : α) : (l ++ [x]).length = l.length + 1 := by simp
/-- a line adds at most one of each -/
theorem lim_step {s : List UInt8} {en f b n j : Nat} {st st' : CS} (h : lineR s en f b st = .ok st' j) (hL : Lim n st) : Lim (n + 1) st' := by
 have hU := hL.up (Nat.le_succ n)
 by_cases h0 : b = en ∨ bt s b = 35
 · unfold lineR at h; rw [if_pos h0] at h; simp only [PR.ok.injEq] at h; rw [← h.1]; exact hU
 cases hk : wordsC.findIdx? (fun w => w.isPrefixOf ((s.drop b).take (en - b))) with
 | none => rw [lineR_none h0 hk] at h; cases h
 | some k =>
   have hk7 : k < 7 := (List.findIdx?_eq_some_iff_getElem.1 hk).1
   rcases (by omega : k = 0 ∨ k = 1 ∨ k = 2 ∨ k = 3 ∨ k = 4 ∨ k = 5 ∨ k = 6) with rfl | rfl | rfl | rfl | rfl | rfl | rfl
   · rw [lineR_0 h0 hk] at h; obtain ⟨_, _, _, h⟩ := bindI h
     split at h
     · cases h
     · simp only [PR.ok.injEq] at h; obtain ⟨rfl, _⟩ := h; refine ⟨by have := hL.lp; rw [len1]; omega, fun l hl => ?_, hU.lm, hU.ln, hU.lb, hU.la⟩
       rcases List.mem_append.1 hl with hl | hl
       · exact hU.lr l hl
       · simp at hl; subst hl; exact Nat.zero_le _
   · rw [lineR_1 h0 hk] at h; obtain ⟨u, _, _, h⟩ := bindI h; obtain ⟨_, _, _, h⟩ := bindI h; obtain ⟨v, _, _, h⟩ := bindI h; obtain ⟨_, _, _, h⟩ := bindI h
     split at h
     · cases h
     · rename_i hne; simp only [PR.ok.injEq] at h; obtain ⟨rfl, _⟩ := h; refine ⟨by have := hL.lp; rw [len1, List.length_take]; omega, fun l hl => ?_, hU.lm, hU.ln, hU.lb, hU.la⟩
       rcases List.mem_append.1 hl with hl | hl
       · exact hU.lr l (List.mem_of_mem_take hl)
       · simp only [List.mem_singleton] at hl; subst hl; rw [len1]; have hlt : st.c.ps.length - 1 < st.c.ps.length := by omega
         rw [List.getD_eq_getElem?_getD, List.getElem?_eq_getElem hlt]; have := hL.lr _ (List.getElem_mem hlt); simp only [Option.getD_some]; omega
   · rw [lineR_2 h0 hk] at h
     split at h
     · cases h
     · obtain ⟨t, _, _, h⟩ := bindI h; simp only [PR.ok.injEq] at h; obtain ⟨rfl, _⟩ := h; exact ⟨hU.lp, hU.lr, hU.lm, hU.ln, hU.lb, hU.la⟩
   · rw [lineR_3 h0 hk] at h; obtain ⟨u, _, _, h⟩ := bindI h; obtain ⟨_, _, _, h⟩ := bindI h; obtain ⟨v, _, _, h⟩ := bindI h; obtain ⟨_, _, _, h⟩ := bindI h; obtain ⟨l, _, _, h⟩ := bindI h; obtain ⟨r, _, _, h⟩ := bindI h; simp only [PR.ok.injEq] at h; obtain ⟨rfl, _⟩ := h; exact ⟨hU.lp, hU.lr, by have := hL.lm; rw [len1]; omega, hU.ln, hU.lb, hU.la⟩
   · rw [lineR_4 h0 hk] at h; obtain ⟨u, _, _, h⟩ := bindI h; obtain ⟨_, _, _, h⟩ := bindI h; simp only [PR.ok.injEq] at h; obtain ⟨rfl, _⟩ := h; exact ⟨hU.lp, hU.lr, hU.lm, by have := hL.ln; rw [len1]; omega, hU.lb, hU.la⟩
   · rw [lineR_5 h0 hk] at h; obtain ⟨u, _, _, h⟩ := bindI h; simp only [PR.ok.injEq] at h; obtain ⟨rfl, _⟩ := h; exact ⟨hU.lp, hU.lr, hU.lm, hU.ln, by have := hL.lb; rw [len1]; omega, hU.la⟩
   · rw [lineR_6 h0 hk] at h; obtain ⟨u, _, _, h⟩ := bindI h; simp only [PR.ok.injEq] at h; obtain ⟨rfl, _⟩ := h; exact ⟨hU.lp, hU.lr, hU.lm, hU.ln, hU.lb, by have := hL.la; rw [len1]; omega⟩
/-- a line's tree is not too deep -/
theorem shal_step {s : List UInt8} {en f b j : Nat} {st st' : CS} (h : lineR s en f b st = .ok st' j) (hL : ¬ tooDeep st.c.re) : ¬ tooDeep st'.c.re := by
 by_cases h0 : b = en ∨ bt s b = 35
 · unfold lineR at h; rw [if_pos h0] at h; simp only [PR.ok.injEq] at h; rw [← h.1]; exact hL
 cases hk : wordsC.findIdx? (fun w => w.isPrefixOf ((s.drop b).take (en - b))) with
 | none => rw [lineR_none h0 hk] at h; cases h
 | some k =>
   have hk7 : k < 7 := (List.findIdx?_eq_some_iff_getElem.1 hk).1
   rcases (by omega : k = 0 ∨ k = 1 ∨ k = 2 ∨ k = 3 ∨ k = 4 ∨ k = 5 ∨ k = 6) with rfl | rfl | rfl | rfl | rfl | rfl | rfl
   · rw [lineR_0 h0 hk] at h; obtain ⟨_, _, _, h⟩ := bindI h
     split at h
     · cases h
     · simp only [PR.ok.injEq] at h; obtain ⟨rfl, _⟩ := h; exact hL
   · rw [lineR_1 h0 hk] at h; obtain ⟨u, _, _, h⟩ := bindI h; obtain ⟨_, _, _, h⟩ := bindI h; obtain ⟨v, _, _, h⟩ := bindI h; obtain ⟨_, _, _, h⟩ := bindI h
     split at h
     · cases h
     · simp only [PR.ok.injEq] at h; obtain ⟨rfl, _⟩ := h; exact hL
   · rw [lineR_2 h0 hk] at h
     split at h
     · cases h
     · obtain ⟨t, i, ht, h⟩ := bindI h; simp only [PR.ok.injEq] at h; obtain ⟨rfl, _⟩ := h; unfold splitR at ht
       split at ht
       · rename_i t' j' hp
         by_cases hd : tooDeep t'
         · rw [if_pos hd] at ht; cases ht
         · rw [if_neg hd] at ht; simp only [PR.ok.injEq] at ht; obtain ⟨rfl, _⟩ := ht; exact hd
       · cases ht
       · cases ht
   · rw [lineR_3 h0 hk] at h; obtain ⟨u, _, _, h⟩ := bindI h; obtain ⟨_, _, _, h⟩ := bindI h; obtain ⟨v, _, _, h⟩ := bindI h; obtain ⟨_, _, _, h⟩ := bindI h; obtain ⟨l, _, _, h⟩ := bindI h; obtain ⟨r, _, _, h⟩ := bindI h; simp only [PR.ok.injEq] at h; obtain ⟨rfl, _⟩ := h; exact hL
   · rw [lineR_4 h0 hk] at h; obtain ⟨u, _, _, h⟩ := bindI h; obtain ⟨_, _, _, h⟩ := bindI h; simp only [PR.ok.injEq] at h; obtain ⟨rfl, _⟩ := h; exact hL
   · rw [lineR_5 h0 hk] at h; obtain ⟨u, _, _, h⟩ := bindI h; simp only [PR.ok.injEq] at h; obtain ⟨rfl, _⟩ := h; exact hL
   · rw [lineR_6 h0 hk] at h; obtain ⟨u, _, _, h⟩ := bindI h; simp only [PR.ok.injEq] at h; obtain ⟨rfl, _⟩ := h; exact hL
theorem shal_none : ¬ tooDeep (.mk 0 (0, 0, 0, 0) 0 0 []) := by
 rintro ⟨h, w, r, h1, h2⟩
 cases h with
 | zero => exact h1.elim
 | succ n => rw [dep] at h2; exact absurd h2 (by show ¬ 30 < 1 + mxl []; decide)
/-- before anything is read -/
def stZ : CS := ⟨⟨[], .mk 0 (0, 0, 0, 0) 0 0 [], [], [], [], []⟩, false, []⟩
/-- the first line -/
def fstR (s : List UInt8) : PR Unit := (mustR s (endL s 0) [102, 114, 101, 116, 115, 97, 119, 32, 49] 0).bind fun _ j => (doneR (endL s 0) j).bind fun _ k => .ok () k
theorem lines_zero {s : List UInt8} {f : Nat} {st : CS} (h : 0 < s.length) : linesR s (f + 1) 0 st = (fstR s).bind fun _ _ => linesR s f (endL s 0 + 1) st := by
 rw [linesR, if_pos h, if_pos rfl]; unfold fstR
 cases mustR s (endL s 0) [102, 114, 101, 116, 115, 97, 119, 32, 49] 0 with
 | ok u j =>
   rw [bindOk, bindOk]
   cases doneR (endL s 0) j with
   | ok u k => rfl
   | bad e k => rfl
   | out => rfl
 | bad e j => rfl
 | out => rfl
theorem lines_more {s : List UInt8} {f i : Nat} {st : CS} (h : i < s.length) (h0 : i ≠ 0) : linesR s (f + 1) i st = (lineR s (endL s i) (s.length + 1) i st).bind fun st' _ => linesR s f (endL s i + 1) st' := by
 rw [linesR, if_pos h, if_neg h0]
theorem lines_stop {s : List UInt8} {f i : Nat} {st : CS} (h : ¬ i < s.length) : linesR s (f + 1) i st = .ok st i := by rw [linesR, if_neg h]
/-- as it lies -/
theorem StX.conf {B tb tc : Nat} {vs : List Value} {w : World} {V : CV} {st : CS} (h : StX B tb tc vs w V st) (hd : ¬ tooDeep st.c.re) : One6 V ∧ CfAt w 30 V.r V.p V.m V.n V.b V.a st.c := by
 have one : ∀ {α : Type} {f : α → List Value} {sz : Nat} {e : TypeId} {v : Value} {l : List α}, OX f sz B tb tc e w v l → v.oneCell' = true := fun h => by
   obtain ⟨a, cap, e, _⟩ := h.1.form; rw [e]; rfl
 obtain ⟨k, hk⟩ := h.re.at'
 have hk30 : ReAt w 30 V.r st.c.re := hk.tight (by
   rcases Nat.lt_or_ge 30 (dep k st.c.re) with h1 | h1
   · exact absurd ⟨k, w, V.r, hk, h1⟩ hd
   · exact h1)
 exact ⟨⟨h.re.one, one h.p, one h.m, one h.n, one h.b, one h.a⟩, ⟨vs, h.p.1.row, h.pl, fun i u l hu hl => (h.pr i u l hu hl).1.row⟩, hk30, h.m.1.row, h.n.1.row, h.b.1.row, h.a.1.row⟩
/-- what Parse tells of a text -/
def ParsC (s : List UInt8) (V : CV) (er at' : Int) (w : World) : Prop :=
 if 65536 < s.length then er = 2 ∧ at' = 0 ∧ V = cvZ
 else match linesR s (s.length + 2) 0 stZ with
   | .bad e j => er = e ∧ at' = j ∧ V = cvZ
   | .out => False
   | .ok st _ => if s.length = 0 then er = 170 ∧ at' = 0 ∧ V = cvZ else if st.split = false then er = 172 ∧ at' = s.length ∧ V = cvZ
     else if confE 30 st.c ≠ 0 then er = confE 30 st.c ∧ at' = s.length ∧ V = cvZ else er = 0 ∧ at' = 0 ∧ CfAt w 30 V.r V.p V.m V.n V.b V.a st.c
theorem PcAt.range {w : World} {g : Nat} {S : ByteArray} {i en bg : Nat} {V : CV} (h : PcAt w g S i en bg V) : w.rangeAt g 4 (cfC V.r V.p V.m V.n V.b V.a).toList := fun j v hv => by
 rw [cell_of_row w g (4 + j) _ _ _ h]; have hj : j < 13 := (List.getElem?_eq_some_iff.1 hv).1
 rcases (by omega : j = 0 ∨ j = 1 ∨ j = 2 ∨ j = 3 ∨ j = 4 ∨ j = 5 ∨ j = 6 ∨ j = 7 ∨ j = 8 ∨ j = 9 ∨ j = 10 ∨ j = 11 ∨ j = 12) with rfl | rfl | rfl | rfl | rfl | rfl | rfl | rfl | rfl | rfl | rfl | rfl | rfl
 all_goals exact hv
theorem load_mid_cf {o : Oper} {a : Act} {w : World} {K : Act → World → Prop} {Q : Exit → Act → World → Prop} {g : Nat} {S : ByteArray} {i en bg : Nat} {V : CV} (h : PcAt w g S i en bg V) (x : Operand) (ho : o.op = .load 36 x)
   (hx : a.eval x = .pointer (some ⟨g, 4, none⟩)) (hK : K (a.put o.dst (cfV V)) w) : o.wp Tryd.prog a w K Q :=
 wp_load_mid 36 x ho g 4 hx (cfC V.r V.p V.m V.n V.b V.a).toList _ h.range Tryd.underlying36 rfl (by kernel_rfl) hK
theorem PC.res {B b2 b3 b4 : Nat} {w0 W : World} {V : CV} {er at' : Int} (h : PC B b2 b3 b4 w0 V er at' W) {fn : Func} {p2 p3 p4 : Tmp} (hf : fn.results = #[.cell p2 36, .cell p3 37, .cell p4 3]) (tmps : Array Value)
   (h2 : tmps.getD p2 undef = .pointer (some ⟨b2, 0, none⟩)) (h3 : tmps.getD p3 undef = .pointer (some ⟨b3, 0, none⟩)) (h4 : tmps.getD p4 undef = .pointer (some ⟨b4, 0, none⟩)) : (results fn tmps).run Tryd.prog W = .ok (.tuple #[cfV V, .int .i64 er, .int .i64 at']) W := by
 have h2' : tmps[p2]?.getD undef = .pointer (some ⟨b2, 0, none⟩) := by simpa using h2
 have h3' : tmps[p3]?.getD undef = .pointer (some ⟨b3, 0, none⟩) := by simpa using h3
 have h4' : tmps[p4]?.getD undef = .pointer (some ⟨b4, 0, none⟩) := by simpa using h4
 have e1 := run_loadVar_row (P := Tryd.prog) W b2 36 36 (cfC V.r V.p V.m V.n V.b V.a) (0, 0) _ h.c Tryd.underlying36 rfl info_cfp; have c3 := h.e.cell; have c4 := h.a.cell; have e3 : (loadVar 37 ⟨b3, 0, none⟩).run Tryd.prog W = .ok (.int .i64 er) W := by simp [go_sem, c3]
 have e4 : (loadVar 3 ⟨b4, 0, none⟩).run Tryd.prog W = .ok (.int .i64 at') W := by simp [go_sem, c4]
 show _ = Result.ok (Value.tuple #[Value.agg (cfC V.r V.p V.m V.n V.b V.a), .int .i64 er, .int .i64 at']) W; generalize cfC V.r V.p V.m V.n V.b V.a = cs at e1 ⊢
 simp [results, hf, h2', h3', h4', asAddr, e1, e3, e4]
theorem PC.start (w : World) : PC w.heap.size w.heap.size (w.heap.size + 1) (w.heap.size + 1 + 1) w cvZ 0 0 (((w.alloc (.cells (cfC cvZ.r cvZ.p cvZ.m cvZ.n cvZ.b cvZ.a) 36)).alloc (.cells #[.int .i64 0] 37)).alloc (.cells #[.int .i64 0] 3)) := by
 have k1 := (Below.refl _ w).alloc (Nat.le_refl _) (.cells (cfC cvZ.r cvZ.p cvZ.m cvZ.n cvZ.b cvZ.a) 36); have k2 := (Below.refl _ (w.alloc (.cells (cfC cvZ.r cvZ.p cvZ.m cvZ.n cvZ.b cvZ.a) 36))).alloc (Nat.le_refl _) (.cells #[.int .i64 0] 37); have k3 := (Below.refl _ ((w.alloc (.cells (cfC cvZ.r cvZ.p cvZ.m cvZ.n cvZ.b cvZ.a) 36)).alloc (.cells #[.int .i64 0] 37))).alloc (Nat.le_refl _) (.cells #[.int .i64 0] 3); refine ⟨((CBox.new w _ _ _ _ _ _).keep k2).keep k3, ?_, ?_, k1.trans ((k2.trans (k3.mono k2.size)).mono k1.size), by omega⟩
 · have h := IB.new (w.alloc (.cells (cfC cvZ.r cvZ.p cvZ.m cvZ.n cvZ.b cvZ.a) 36)) 37; rw [World.size_alloc] at h; exact h.keep k3
 · have h := IB.new ((w.alloc (.cells (cfC cvZ.r cvZ.p cvZ.m cvZ.n cvZ.b cvZ.a) 36)).alloc (.cells #[.int .i64 0] 37)) 3; rw [World.size_alloc, World.size_alloc] at h; exact h
open Go.RowKit Go.Lib
section
variable {s : List UInt8} {w : World}
theorem parsC_long (h : 65536 < s.length) : ParsC s cvZ 2 0 w := by unfold ParsC; rw [if_pos h]; exact ⟨rfl, rfl, rfl⟩
theorem parsC_bad (h : ¬ 65536 < s.length) {e j : Nat} (hX : linesR s (s.length + 2) 0 stZ = .bad e j) : ParsC s cvZ e j w := by
 unfold ParsC; rw [if_neg h, hX]; exact ⟨rfl, rfl, rfl⟩
theorem parsC_nil (h : ¬ 65536 < s.length) {st : CS} {i : Nat} (hX : linesR s (s.length + 2) 0 stZ = .ok st i) (h0 : s.length = 0) : ParsC s cvZ 170 0 w := by
 unfold ParsC; rw [if_neg h, hX]; dsimp only; rw [if_pos h0]; exact ⟨rfl, rfl, rfl⟩
theorem parsC_split (h : ¬ 65536 < s.length) {st : CS} {i : Nat} (hX : linesR s (s.length + 2) 0 stZ = .ok st i) (h0 : ¬ s.length = 0) (h1 : st.split = false) : ParsC s cvZ 172 s.length w := by
 unfold ParsC; rw [if_neg h, hX]; dsimp only; rw [if_neg h0, if_pos h1]; exact ⟨rfl, rfl, rfl⟩
theorem parsC_right (h : ¬ 65536 < s.length) {st : CS} {i : Nat} (hX : linesR s (s.length + 2) 0 stZ = .ok st i) (h0 : ¬ s.length = 0) (h1 : ¬ st.split = false) (hz : confE 30 st.c ≠ 0) : ParsC s cvZ (confE 30 st.c) s.length w := by
 unfold ParsC; rw [if_neg h, hX]; dsimp only; rw [if_neg h0, if_neg h1, if_pos hz]; exact ⟨rfl, rfl, rfl⟩
theorem parsC_ok (h : ¬ 65536 < s.length) {st : CS} {i : Nat} (hX : linesR s (s.length + 2) 0 stZ = .ok st i) (h0 : ¬ s.length = 0) (h1 : ¬ st.split = false) {V : CV} (hc : CfAt w 30 V.r V.p V.m V.n V.b V.a st.c) (hz : confE 30 st.c = 0) : ParsC s V 0 0 w := by
 unfold ParsC; rw [if_neg h, hX]; dsimp only; rw [if_neg h0, if_neg h1, if_neg (fun q => q hz)]; exact ⟨rfl, rfl, hc⟩
end
theorem slice_rest {P : Program} {t : TypeId} (hu : P.underlying t = some .string) (S : ByteArray) (i : Nat) (h : i ≤ S.size) (wx : World) :
   (Instr.slice t (.string S) (some (.int .i64 (i : Int))) none none).run P wx = .ok (.string ⟨(S.data.toList.drop i).toArray⟩) wx := by
 have := run_slice_string_l (P := P) wx t S hu .i64 (i : Int) (by omega) (by omega); rw [this, ba_extract]
 simp
 rw [List.take_of_length_le]; rw [List.length_drop, ba_len]; omega
/-- what the parser holds at first -/
def cv0 (m : Nat) : CV := ⟨reZ, .slice none 0 0, .slice none 0 0, .slice none 0 0, .slice none 0 0, .slice none 0 0, false, m⟩
theorem StX.zero {w : World} {m : Nat} (hk : KvAt w m []) (hm : m < w.heap.size) : StX w.heap.size w.heap.size w.heap.size [] w (cv0 m) stZ := by
 have nl : ∀ {α : Type} {f : α → List Value} {sz : Nat} {e : TypeId}, OX f sz w.heap.size w.heap.size w.heap.size e w (.slice none 0 0) ([] : List α) := ⟨OwnR.nil, fun k hk => by simp [Value.ownBlock] at hk⟩; exact ⟨Nat.le_refl _, Nat.le_refl _, Nat.le_refl _, nl, rfl, fun i u l h => by simp at h, fun i j u v h => by simp at h, nl, nl, nl, nl, fun k hk => by simp [cv0, Value.ownBlock] at hk, ReS.zero _ _ _, rfl, hk, hm⟩
theorem Lim.zero (n : Nat) : Lim n stZ := ⟨Nat.zero_le _, fun l h => by simp [stZ] at h, Nat.zero_le _, Nat.zero_le _, Nat.zero_le _, Nat.zero_le _⟩
set_option maxRecDepth 100000 in
set_option maxHeartbeats 4000000 in
theorem cf_parse (S : ByteArray) (w : World) :
   Calls Tryd.prog 6 #[.string S] w fun e w' => ∃ V er at', e = .returned (.tuple #[cfV V, .int .i64 er, .int .i64 at']) ∧ Below w.heap.size w w' ∧ ParsC S.data.toList V er at' w' := by
 have hmf := mkf; have hmm := @run_makeMap Tryd.prog; have HP := Lib.hid (PC.start w)
 by_cases hl : 65536 < S.size
 · have hl' : (S.size : Int) > 65536 := by omega
   have HL := Lib.hid (show 65536 < S.data.toList.length by rw [ba_len]; exact hl); clear hl hmm; go_enter_defers Tryd.func6, Tryd.ntmps6
   repeat' (go_not_at_region 1; first | go_values | go_skip | go_guarded | go_step | go_upon)
   change Code.wp _ _ _ _ (((w.alloc (.cells (cfC cvZ.r cvZ.p cvZ.m cvZ.n cvZ.b cvZ.a) 36)).alloc (.cells #[.int .i64 0] 37)).alloc (.cells #[.int .i64 0] 3)); generalize hb4 : w.heap.size + 1 + 1 = b4 at HP ⊢; generalize hb3 : w.heap.size + 1 = b3 at HP ⊢; generalize hb2 : w.heap.size = b2 at HP ⊢; refine gen_wd (fun W => PC b2 b2 b3 b4 w cvZ 0 0 W) HP.out ?_; clear HP hb4 hb3; rintro w1 hp; have HP := Lib.hid hp; have HZ := Lib.hid hb2; clear hp hb2
   repeat' (go_not_at_region 2; first | go_values | go_skip | go_guarded | go_step | go_upon)
   have HP1 := Lib.hid (HP.out.setC cvZ); have c3 := HP1.out.e.cell; have f3 := HP1.out.e.free 0; have HP2 := Lib.hid (HP1.out.setE 2); have c4 := HP2.out.a.cell; have f4 := HP2.out.a.free 0; have HP3 := Lib.hid (HP2.out.setA 0); wkka (first | (refine store_cbox HP.out.c cvZ ⟨rfl, rfl, rfl, rfl, rfl, rfl⟩ _ _ rfl rfl rfl ?_; dsimp only [Act.put])); exact ⟨_, HP3.out.res rfl _ rfl rfl rfl, cvZ, 2, 0, rfl, by rw [HZ.out]; exact HP3.out.bel, parsC_long HL.out⟩
 · have hl' : ¬ (S.size : Int) > 65536 := by omega
   have HL := Lib.hid (show ¬ 65536 < S.data.toList.length by rw [ba_len]; exact hl); have hS : S.size ≤ 65536 := by omega
   clear hl; go_enter_defers Tryd.func6, Tryd.ntmps6
   repeat' (go_not_at_region 1; first | go_values | go_skip | go_guarded | go_step | go_upon)
   change Code.wp _ _ _ _ (((w.alloc (.cells (cfC cvZ.r cvZ.p cvZ.m cvZ.n cvZ.b cvZ.a) 36)).alloc (.cells #[.int .i64 0] 37)).alloc (.cells #[.int .i64 0] 3)); generalize hb4 : w.heap.size + 1 + 1 = b4 at HP ⊢; generalize hb3 : w.heap.size + 1 = b3 at HP ⊢; generalize hb2 : w.heap.size = b2 at HP ⊢; refine gen_wd (fun W => PC b2 b2 b3 b4 w cvZ 0 0 W) HP.out ?_; clear HP hb4 hb3; rintro w1 hp; have HP := Lib.hid hp; have HZ := Lib.hid hb2; clear hp hb2
   repeat' (go_not_at_region 5; first | go_values | go_skip | go_guarded | go_step | go_upon)
   obtain ⟨m, hm⟩ : ∃ m, w1.heap.size = m := ⟨_, rfl⟩; have hb4m : b4 < m := by rw [← hm]; exact HP.out.a.lt
   have hk1 : Below w1.heap.size w1 (w1.alloc (.map #[] 0)) := (Below.refl w1.heap.size w1).alloc (Nat.le_refl _) (.map #[] 0); have hk2 : Below w1.heap.size w1 ((w1.alloc (.map #[] 0)).alloc (.cells (pcC S 0 0 0 (cv0 w1.heap.size)) 49)) := hk1.alloc (by simp) _; have hkv : KvAt ((w1.alloc (.map #[] 0)).alloc (.cells (pcC S 0 0 0 (cv0 w1.heap.size)) 49)) w1.heap.size [] := by
     have h1 := KvAt.new w1; exact h1.keep ((Below.refl _ _).alloc (Nat.le_refl _) _)
   have hpc : PcAt ((w1.alloc (.map #[] 0)).alloc (.cells (pcC S 0 0 0 (cv0 w1.heap.size)) 49)) (w1.heap.size + 1) S 0 0 0 (cv0 w1.heap.size) := by
     have h1 := Go.heap_alloc_new (w1.alloc (.map #[] 0)) (.cells (pcC S 0 0 0 (cv0 w1.heap.size)) 49); rw [World.size_alloc] at h1; exact h1
   change Code.wp _ _ _ _ ((w1.alloc (.map #[] 0)).alloc (.cells (pcC S 0 0 0 (cv0 w1.heap.size)) 49)); refine gen_wd (fun W => PC b2 b2 b3 b4 w cvZ 0 0 W ∧ PcAt W (m + 1) S 0 0 0 (cv0 m) ∧ KvAt W m []) ⟨HP.out.keep hk2, by rw [← hm]; exact hpc, by rw [← hm]; exact hkv⟩ ?_; clear hk1 hk2 hkv hpc HP; rw [hm]; clear hm; rintro w2 ⟨hp, hpc, hkv⟩; have hgw : m + 1 < w2.heap.size := hpc.lt; obtain ⟨g, hg⟩ : ∃ g, m + 1 = g := ⟨_, rfl⟩; have hmg : m ≠ g := by omega
   have hmlg : m < g := by omega
   rw [hg] at hpc hgw ⊢; have hw := cf_words g w2; clear hg; wkk; refine Calls.mono (hw) ?_; rintro _ w3 ⟨bx, wm, rfl, hbx1, hwm1, hbx2, hwm2, hbx, hwd, hb⟩; dsimp only; have hH3 : SAt w3.heap.size g m S 0 0 0 w3 stZ := ⟨cv0 m, w3.heap.size, w3.heap.size, [], rfl, hpc.keep hb, StX.zero (hkv.keep hb) (by have := hb.size; omega)⟩; have HP := Lib.hid (hp.keep hb); have HB := Lib.hid hbx; have HW := Lib.hid hwd; have HS := Lib.hid hH3; have hg3 : g < w3.heap.size := by have := hb.size; omega
   clear hw hp hpc hkv hb hbx hwd hH3; obtain ⟨B, hB⟩ : ∃ B, w3.heap.size = B := ⟨_, rfl⟩; rw [hB] at HS hg3 hbx2 hwm2; have HBw := Lib.hid (Nat.le_of_eq hB.symm); clear hB; obtain ⟨X, hX⟩ : ∃ X, linesR S.data.toList (S.data.toList.length + 2) 0 stZ = X := ⟨_, rfl⟩; have HX := Lib.hid hX; have hbg : bx ≠ g := by omega
   have hmB : m < B := by omega
   have hwmg : wm ≠ g := by omega
   have hwmm : wm ≠ m := by omega
   have hbxm : bx ≠ m := by omega
   clear hbx1 hwm1 hgw; wkk
   go_loopg [7] (S.size + 2) (fun gk s7 wr => ∃ (i f : Nat) (st : CS), s7 = .int .i64 (i : Int) ∧ linesR S.data.toList f i st = X ∧ S.size + 2 ≤ f + i ∧ f ≤ gk ∧ i ≤ S.size + 1 ∧ Hid (Lim i st ∧ ¬ tooDeep st.c.re) ∧ Hid (∃ j en bg, SAt B g m S j en bg wr st) ∧ Hid (Mid B g m w3 wr))
   case atStart => exact ⟨0, S.size + 2, stZ, rfl, by rw [ba_len] at hX; exact hX, by omega, Nat.le_refl _, Nat.zero_le _, Lib.hid ⟨Lim.zero 0, shal_none⟩, Lib.hid ⟨0, 0, 0, HS.out⟩, Lib.hid (Mid.refl _ _ _ _)⟩
   case round =>
     clear hX HS; obtain ⟨i, f0, st, rfl, hlr, hfi, hfg, his, HLS, HSt, HMd⟩ := hrel; have HLm := Lib.hid HLS.out.1; have HSh := Lib.hid HLS.out.2; clear HLS; obtain ⟨f, rfl⟩ : ∃ f, f0 = f + 1 := ⟨f0 - 1, by omega⟩; have HPr := Lib.hid (HP.out.mid HMd.out (by omega) (by omega) hb4m); obtain ⟨j0, en0, bg0, V, tb, tc, vs, hV, hpc, hst⟩ := HSt.out; have HV := Lib.hid hV; have HPc := Lib.hid hpc; have HSx := Lib.hid hst
     by_cases hlt : i < S.size
     · have hlt' : (i : Int) < S.size := by omega
       have hls : i < S.data.toList.length := by rw [ba_len]; exact hlt
       have hex := endL_idx (s := S.data.toList) (i := i) (Nat.le_of_lt hls); have hee := endL_le (s := S.data.toList) (i := i) (Nat.le_of_lt hls); have hz0 : i = 0 → linesR S.data.toList (f + 1) 0 st = (fstR S.data.toList).bind fun _ _ => linesR S.data.toList f (endL S.data.toList 0 + 1) st := fun h => lines_zero (by omega)
       have hzn : i ≠ 0 → linesR S.data.toList (f + 1) i st = (lineR S.data.toList (endL S.data.toList i) (S.size + 1) i st).bind fun st' _ => linesR S.data.toList f (endL S.data.toList i + 1) st' := fun h => by rw [lines_more hls h, ba_len]
       unfold fstR at hz0; rw [ba_len] at hex hee; obtain ⟨en, hen⟩ : ∃ en, endL S.data.toList i = en := ⟨_, rfl⟩; rw [hen] at hex hee hzn; have hzi : i = 0 → endL S.data.toList 0 = en := fun h => by rw [← hen, h]
       have hsl := fun W => slice_rest (P := Tryd.prog) (t := 9) Tryd.underlying9 S i (by omega) W
       have hib := fun W => Tryd.strings_IndexByte ⟨(S.data.toList.drop i).toArray⟩ 10 W
       obtain ⟨N, hN⟩ : ∃ N, Lib.indexByte (S.data.toList.drop i) 10 = N := ⟨_, rfl⟩; rw [hN] at hex; rw [show Lib.indexByte (⟨(S.data.toList.drop i).toArray⟩ : ByteArray).data.toList (10 : Int).toNat.toUInt8 = N from hN] at hib; generalize (S.data.toList.drop i) = sd at hsl hib; have H1 := hpc.set1 i; have H3 := H1.set3 i; have H2 := H3.set2 S.size; have c1 := hpc.c1; have f1 := hpc.free 1; have c3 := H1.c3; have f3 := H1.free 3; have c2 := H3.c2; have f2 := H3.free 2; have hbb := HBw.out; have hBr := hst.sz; have HH2 := Lib.hid H2
       have He := Lib.hid ((((Else.refl g wr).setCell 1 (.int .i64 (i : Int))).setCell 3 (.int .i64 (i : Int))).setCell 2 (.int .i64 (S.size : Int))); clear hpc hst hls hN hV H1 H3 H2 hen; wkk; refine Calls.mono ((hib _)) ?_; rintro _ wz ⟨rfl, rfl⟩; dsimp only; clear hib hsl
       repeat' (go_not_at_region 10; first | go_values | go_skip | go_guarded | go_step | go_upon)
       refine gen_wd (fun W => PcAt W g S i S.size i V ∧ Else g wr W) ⟨HH2.out, He.out⟩ ?_; clear c1 f1 c2 f2 c3 f3 HH2 He; rintro w4 ⟨hpc4, he4⟩
       rcases hex with ⟨hN, hE⟩ | ⟨hN, hE, hlE⟩
       · have hN' : ¬ N ≥ 0 := by omega
         rw [← hE] at hpc4; have HPc4 := Lib.hid hpc4; have HE4 := Lib.hid he4; clear hN hE hpc4 he4; have HMw : Hid (Mid B g m w3 w4) := Lib.hid (HMd.out.trans (Mid.els HE4.out hBr)); have HSw := Lib.hid (HSx.out.els HE4.out hg3 (by rw [HV.out]; exact hmg)); have hBw := HSw.out.sz
         by_cases hi0 : i = 0
         · subst hi0; rw [hz0 rfl, hzi rfl] at hlr; have hie : (0 : Nat) ≤ en := Nat.zero_le _; have hq0 : (((0 : Nat) : Int) == 0) = true := rfl; clear hz0 hzn hzi; wkk; have hm := cf_must g S ⟨#[102, 114, 101, 116, 115, 97, 119, 32, 49]⟩ (by decide) 0 en 0 V hS hee.2 hie w4 HPc4.out; rw [show (⟨#[102, 114, 101, 116, 115, 97, 119, 32, 49]⟩ : ByteArray).data.toList = [102, 114, 101, 116, 115, 97, 119, 32, 49] from rfl] at hm
           cases hM : mustR S.data.toList en [102, 114, 101, 116, 115, 97, 119, 32, 49] 0 with
           | out => exact absurd hM (mustR_out _ _)
           | bad e0 j =>
             rw [hM] at hm hlr; have HXB : Hid (X = .bad e0 j) := Lib.hid hlr.symm; clear hlr hM; refine Calls.mono hm ?_; rintro _ wy ⟨rfl, he⟩; have HP2 := HP.out.mid (HMw.out.trans (Mid.els he hBw)) (by omega) (by omega) hb4m; refine leaves_cons (f := 10) (args := #[.pointer (some ⟨b2, 0, none⟩), .pointer (some ⟨b3, 0, none⟩), .pointer (some ⟨b4, 0, none⟩)]) (by simp) (by simp [go_sem]) ?_; refine (cdoor_panicking b2 b2 b3 b4 w cvZ 0 0 e0 j [] wy HP2).mono ?_; rintro e u' w'' ⟨rfl, rfl, hp⟩
             exact ⟨_, hp.res rfl _ rfl rfl rfl, cvZ, e0, j, rfl, by rw [HZ.out]; exact hp.bel, parsC_bad HL.out (HX.out.trans HXB.out)⟩
           | ok um j =>
           rw [hM, bindOk] at hlr; rw [hM] at hm; have hj := ((mustR_in (s := S.data.toList) (en := en) [102, 114, 101, 116, 115, 97, 119, 32, 49] 0 hie).okB hM).2; clear hM; refine Calls.mono (hm) ?_; rintro _ wa ⟨rfl, hpa, hea⟩; dsimp only; have HPa := Lib.hid hpa; have HSa := Lib.hid (HSw.out.els hea hg3 (by rw [HV.out]; exact hmg)); have HMa := Lib.hid (HMw.out.trans (Mid.els hea hBw)); have hBa := HSa.out.sz; clear hm hpa hea HMw HSw hBw; wkk
           by_cases hd : j < en
           · rw [doneR_n hd] at hlr; have HXB : Hid (X = .bad 170 j) := Lib.hid hlr.symm; have hc := cf_done_n HPa.out hd; clear hlr hd; refine Calls.mono hc ?_; rintro _ wy ⟨rfl, he⟩; have HP2 := HP.out.mid (HMa.out.trans (Mid.els he hBa)) (by omega) (by omega) hb4m; refine leaves_cons (f := 10) (args := #[.pointer (some ⟨b2, 0, none⟩), .pointer (some ⟨b3, 0, none⟩), .pointer (some ⟨b4, 0, none⟩)]) (by simp) (by simp [go_sem]) ?_; refine (cdoor_panicking b2 b2 b3 b4 w cvZ 0 0 170 j [] wy HP2).mono ?_; rintro e u' w'' ⟨rfl, rfl, hp⟩
             exact ⟨_, hp.res rfl _ rfl rfl rfl, cvZ, 170, j, rfl, by rw [HZ.out]; exact hp.bel, parsC_bad HL.out (HX.out.trans HXB.out)⟩
           rw [doneR_y hd, bindOk, bindOk] at hlr; have hc := cf_done_y HPa.out hd; clear hd; refine Calls.mono (hc) ?_; rintro _ wb ⟨rfl, hpb, heb⟩; dsimp only; have HS6 : Hid (∃ j, SAt B g m S j en 0 wb st) := Lib.hid ⟨j, V, tb, tc, vs, HV.out, hpb, HSa.out.els heb hg3 (by rw [HV.out]; exact hmg)⟩; have HM6 := Lib.hid (HMa.out.trans (Mid.els (m := m) heb hBa)); have HLm6 : Hid (Lim (en + 1) st ∧ ¬ tooDeep st.c.re) := Lib.hid ⟨HLm.out.up (by omega), HSh.out⟩; clear hc hpb heb HMa HSa hBa; obtain ⟨j6, V6, tb6, tc6, vs6, hV6, hpc6, hs6⟩ := HS6.out; have c2 := hpc6.c2
           have hwe : IntKind.i64.wrap ((en : Int) + 1) = ((en + 1 : Nat) : Int) := by rw [wi64 (by unfold I64; omega)]; omega
           obtain ⟨en1, hen1⟩ : ∃ en1, en + 1 = en1 := ⟨_, rfl⟩; rw [hen1] at hwe hlr; have h1 : S.size + 2 ≤ f + en1 := by omega
           have h2 : en1 ≤ S.size + 1 := by omega
           have h3 : gk - 1 < gk := by omega
           have h4 : f ≤ gk - 1 := by omega
           have HLm7 : Hid (Lim en1 st ∧ ¬ tooDeep (st).c.re) := Lib.hid (by rw [← hen1]; exact HLm6.out); clear hV6 hpc6 hs6 hen1; wkk; go_roundg (gk - 1)
           case rel => exact ⟨en1, f, st, rfl, hlr, h1, h4, h2, HLm7, Lib.hid (HS6.out.elim fun j h => ⟨j, _, _, h⟩), HM6⟩
           case measure => exact h3
         · rw [hzn hi0] at hlr; have hq0 : ((i : Int) == 0) = false := beq_false_of_ne (by omega); have hc := cf_line B g m bx wm S i en (S.size + 1) st hg3 hmg hbx2 hbg hS hee.2 hee.1 (by omega) (HLm.out.up (by omega)); replace hc := hc w4 ⟨V, tb, tc, vs, HV.out, HPc4.out, HSw.out⟩ (HB.out.mid HMw.out hbx2 hbg hbxm) (by unfold WdAt MapAt; rw [HMw.out.block wm hwm2 hwmg hwmm]; exact HW.out); clear hz0 hzn hzi HSw; wkk
           cases hY : lineR S.data.toList en (S.size + 1) i st with
           | out => rw [hY] at hc; exact Calls.mono hc (fun _ _ h => h.elim)
           | bad e0 j =>
             rw [hY] at hc hlr; have HXB : Hid (X = .bad e0 j) := Lib.hid hlr.symm; clear hlr hY; refine Calls.mono hc ?_; rintro _ wy ⟨rfl, hM⟩; have HP2 := HP.out.mid (HMw.out.trans hM) (by omega) (by omega) hb4m; refine leaves_cons (f := 10) (args := #[.pointer (some ⟨b2, 0, none⟩), .pointer (some ⟨b3, 0, none⟩), .pointer (some ⟨b4, 0, none⟩)]) (by simp) (by simp [go_sem]) ?_; refine (cdoor_panicking b2 b2 b3 b4 w cvZ 0 0 e0 j [] wy HP2).mono ?_; rintro e u' w'' ⟨rfl, rfl, hp⟩
             exact ⟨_, hp.res rfl _ rfl rfl rfl, cvZ, e0, j, rfl, by rw [HZ.out]; exact hp.bel, parsC_bad HL.out (HX.out.trans HXB.out)⟩
           | ok st' jj =>
             rw [hY] at hc; rw [hY, bindOk] at hlr; have HLm6 : Hid (Lim (en + 1) st' ∧ ¬ tooDeep st'.c.re) := Lib.hid ⟨(lim_step hY HLm.out).up (by omega), shal_step hY HSh.out⟩; clear hY; refine Calls.mono (hc) ?_; rintro _ wb ⟨rfl, hsb, hMb⟩; dsimp only; have HS6 : Hid (∃ j, SAt B g m S j en i wb st') := Lib.hid hsb; have HM6 := Lib.hid (HMw.out.trans hMb); clear hc hsb hMb HMw; obtain ⟨j6, V6, tb6, tc6, vs6, hV6, hpc6, hs6⟩ := HS6.out; have c2 := hpc6.c2; have hwe : IntKind.i64.wrap ((en : Int) + 1) = ((en + 1 : Nat) : Int) := by rw [wi64 (by unfold I64; omega)]; omega
             obtain ⟨en1, hen1⟩ : ∃ en1, en + 1 = en1 := ⟨_, rfl⟩; rw [hen1] at hwe hlr; have h1 : S.size + 2 ≤ f + en1 := by omega
             have h2 : en1 ≤ S.size + 1 := by omega
             have h3 : gk - 1 < gk := by omega
             have h4 : f ≤ gk - 1 := by omega
             have HLm7 : Hid (Lim en1 st' ∧ ¬ tooDeep (st').c.re) := Lib.hid (by rw [← hen1]; exact HLm6.out); clear hV6 hpc6 hs6 hen1; wkk; go_roundg (gk - 1)
             case rel => exact ⟨en1, f, st', rfl, hlr, h1, h4, h2, HLm7, Lib.hid (HS6.out.elim fun j h => ⟨j, _, _, h⟩), HM6⟩
             case measure => exact h3
       · have hN' : N ≥ 0 := hN; have hwN : IntKind.i64.wrap ((i : Int) + N) = (en : Int) := by rw [hE]; exact wi64 (by unfold I64; omega)
         have c2 := hpc4.c2; have f2 := hpc4.free 2; have HPc5 := Lib.hid (hpc4.set2 en); have HE5 := Lib.hid (he4.setCell 2 (.int .i64 (en : Int))); clear hN hE hpc4 he4
         repeat' (go_not_at_region 12; first | go_values | go_skip | go_guarded | go_step | go_upon)
         refine gen_wd (fun W => PcAt W g S i en i V ∧ Else g wr W) ⟨HPc5.out, HE5.out⟩ ?_; clear c2 f2 HPc5 HE5 hwN; rintro w5 ⟨hpc5, he5⟩; have HPc4 := Lib.hid hpc5; have HE4 := Lib.hid he5; clear hpc5 he5; have HMw : Hid (Mid B g m w3 w5) := Lib.hid (HMd.out.trans (Mid.els HE4.out hBr)); have HSw := Lib.hid (HSx.out.els HE4.out hg3 (by rw [HV.out]; exact hmg)); have hBw := HSw.out.sz
         by_cases hi0 : i = 0
         · subst hi0; rw [hz0 rfl, hzi rfl] at hlr; have hie : (0 : Nat) ≤ en := Nat.zero_le _; have hq0 : (((0 : Nat) : Int) == 0) = true := rfl; clear hz0 hzn hzi; wkk; have hm := cf_must g S ⟨#[102, 114, 101, 116, 115, 97, 119, 32, 49]⟩ (by decide) 0 en 0 V hS hee.2 hie w5 HPc4.out; rw [show (⟨#[102, 114, 101, 116, 115, 97, 119, 32, 49]⟩ : ByteArray).data.toList = [102, 114, 101, 116, 115, 97, 119, 32, 49] from rfl] at hm
           cases hM : mustR S.data.toList en [102, 114, 101, 116, 115, 97, 119, 32, 49] 0 with
           | out => exact absurd hM (mustR_out _ _)
           | bad e0 j =>
             rw [hM] at hm hlr; have HXB : Hid (X = .bad e0 j) := Lib.hid hlr.symm; clear hlr hM; refine Calls.mono hm ?_; rintro _ wy ⟨rfl, he⟩; have HP2 := HP.out.mid (HMw.out.trans (Mid.els he hBw)) (by omega) (by omega) hb4m; refine leaves_cons (f := 10) (args := #[.pointer (some ⟨b2, 0, none⟩), .pointer (some ⟨b3, 0, none⟩), .pointer (some ⟨b4, 0, none⟩)]) (by simp) (by simp [go_sem]) ?_; refine (cdoor_panicking b2 b2 b3 b4 w cvZ 0 0 e0 j [] wy HP2).mono ?_; rintro e u' w'' ⟨rfl, rfl, hp⟩
             exact ⟨_, hp.res rfl _ rfl rfl rfl, cvZ, e0, j, rfl, by rw [HZ.out]; exact hp.bel, parsC_bad HL.out (HX.out.trans HXB.out)⟩
           | ok um j =>
           rw [hM, bindOk] at hlr; rw [hM] at hm; have hj := ((mustR_in (s := S.data.toList) (en := en) [102, 114, 101, 116, 115, 97, 119, 32, 49] 0 hie).okB hM).2; clear hM; refine Calls.mono (hm) ?_; rintro _ wa ⟨rfl, hpa, hea⟩; dsimp only; have HPa := Lib.hid hpa; have HSa := Lib.hid (HSw.out.els hea hg3 (by rw [HV.out]; exact hmg)); have HMa := Lib.hid (HMw.out.trans (Mid.els hea hBw)); have hBa := HSa.out.sz; clear hm hpa hea HMw HSw hBw; wkk
           by_cases hd : j < en
           · rw [doneR_n hd] at hlr; have HXB : Hid (X = .bad 170 j) := Lib.hid hlr.symm; have hc := cf_done_n HPa.out hd; clear hlr hd; refine Calls.mono hc ?_; rintro _ wy ⟨rfl, he⟩; have HP2 := HP.out.mid (HMa.out.trans (Mid.els he hBa)) (by omega) (by omega) hb4m; refine leaves_cons (f := 10) (args := #[.pointer (some ⟨b2, 0, none⟩), .pointer (some ⟨b3, 0, none⟩), .pointer (some ⟨b4, 0, none⟩)]) (by simp) (by simp [go_sem]) ?_; refine (cdoor_panicking b2 b2 b3 b4 w cvZ 0 0 170 j [] wy HP2).mono ?_; rintro e u' w'' ⟨rfl, rfl, hp⟩
             exact ⟨_, hp.res rfl _ rfl rfl rfl, cvZ, 170, j, rfl, by rw [HZ.out]; exact hp.bel, parsC_bad HL.out (HX.out.trans HXB.out)⟩
           rw [doneR_y hd, bindOk, bindOk] at hlr; have hc := cf_done_y HPa.out hd; clear hd; refine Calls.mono (hc) ?_; rintro _ wb ⟨rfl, hpb, heb⟩; dsimp only; have HS6 : Hid (∃ j, SAt B g m S j en 0 wb st) := Lib.hid ⟨j, V, tb, tc, vs, HV.out, hpb, HSa.out.els heb hg3 (by rw [HV.out]; exact hmg)⟩; have HM6 := Lib.hid (HMa.out.trans (Mid.els (m := m) heb hBa)); have HLm6 : Hid (Lim (en + 1) st ∧ ¬ tooDeep st.c.re) := Lib.hid ⟨HLm.out.up (by omega), HSh.out⟩; clear hc hpb heb HMa HSa hBa; obtain ⟨j6, V6, tb6, tc6, vs6, hV6, hpc6, hs6⟩ := HS6.out; have c2 := hpc6.c2
           have hwe : IntKind.i64.wrap ((en : Int) + 1) = ((en + 1 : Nat) : Int) := by rw [wi64 (by unfold I64; omega)]; omega
           obtain ⟨en1, hen1⟩ : ∃ en1, en + 1 = en1 := ⟨_, rfl⟩; rw [hen1] at hwe hlr; have h1 : S.size + 2 ≤ f + en1 := by omega
           have h2 : en1 ≤ S.size + 1 := by omega
           have h3 : gk - 1 < gk := by omega
           have h4 : f ≤ gk - 1 := by omega
           have HLm7 : Hid (Lim en1 st ∧ ¬ tooDeep (st).c.re) := Lib.hid (by rw [← hen1]; exact HLm6.out); clear hV6 hpc6 hs6 hen1; wkk; go_roundg (gk - 1)
           case rel => exact ⟨en1, f, st, rfl, hlr, h1, h4, h2, HLm7, Lib.hid (HS6.out.elim fun j h => ⟨j, _, _, h⟩), HM6⟩
           case measure => exact h3
         · rw [hzn hi0] at hlr; have hq0 : ((i : Int) == 0) = false := beq_false_of_ne (by omega); have hc := cf_line B g m bx wm S i en (S.size + 1) st hg3 hmg hbx2 hbg hS hee.2 hee.1 (by omega) (HLm.out.up (by omega)); replace hc := hc w5 ⟨V, tb, tc, vs, HV.out, HPc4.out, HSw.out⟩ (HB.out.mid HMw.out hbx2 hbg hbxm) (by unfold WdAt MapAt; rw [HMw.out.block wm hwm2 hwmg hwmm]; exact HW.out); clear hz0 hzn hzi HSw; wkk
           cases hY : lineR S.data.toList en (S.size + 1) i st with
           | out => rw [hY] at hc; exact Calls.mono hc (fun _ _ h => h.elim)
           | bad e0 j =>
             rw [hY] at hc hlr; have HXB : Hid (X = .bad e0 j) := Lib.hid hlr.symm; clear hlr hY; refine Calls.mono hc ?_; rintro _ wy ⟨rfl, hM⟩; have HP2 := HP.out.mid (HMw.out.trans hM) (by omega) (by omega) hb4m; refine leaves_cons (f := 10) (args := #[.pointer (some ⟨b2, 0, none⟩), .pointer (some ⟨b3, 0, none⟩), .pointer (some ⟨b4, 0, none⟩)]) (by simp) (by simp [go_sem]) ?_; refine (cdoor_panicking b2 b2 b3 b4 w cvZ 0 0 e0 j [] wy HP2).mono ?_; rintro e u' w'' ⟨rfl, rfl, hp⟩
             exact ⟨_, hp.res rfl _ rfl rfl rfl, cvZ, e0, j, rfl, by rw [HZ.out]; exact hp.bel, parsC_bad HL.out (HX.out.trans HXB.out)⟩
           | ok st' jj =>
             rw [hY] at hc; rw [hY, bindOk] at hlr; have HLm6 : Hid (Lim (en + 1) st' ∧ ¬ tooDeep st'.c.re) := Lib.hid ⟨(lim_step hY HLm.out).up (by omega), shal_step hY HSh.out⟩; clear hY; refine Calls.mono (hc) ?_; rintro _ wb ⟨rfl, hsb, hMb⟩; dsimp only; have HS6 : Hid (∃ j, SAt B g m S j en i wb st') := Lib.hid hsb; have HM6 := Lib.hid (HMw.out.trans hMb); clear hc hsb hMb HMw; obtain ⟨j6, V6, tb6, tc6, vs6, hV6, hpc6, hs6⟩ := HS6.out; have c2 := hpc6.c2; have hwe : IntKind.i64.wrap ((en : Int) + 1) = ((en + 1 : Nat) : Int) := by rw [wi64 (by unfold I64; omega)]; omega
             obtain ⟨en1, hen1⟩ : ∃ en1, en + 1 = en1 := ⟨_, rfl⟩; rw [hen1] at hwe hlr; have h1 : S.size + 2 ≤ f + en1 := by omega
             have h2 : en1 ≤ S.size + 1 := by omega
             have h3 : gk - 1 < gk := by omega
             have h4 : f ≤ gk - 1 := by omega
             have HLm7 : Hid (Lim en1 st' ∧ ¬ tooDeep (st').c.re) := Lib.hid (by rw [← hen1]; exact HLm6.out); clear hV6 hpc6 hs6 hen1; wkk; go_roundg (gk - 1)
             case rel => exact ⟨en1, f, st', rfl, hlr, h1, h4, h2, HLm7, Lib.hid (HS6.out.elim fun j h => ⟨j, _, _, h⟩), HM6⟩
             case measure => exact h3
     · have hlt' : ¬ (i : Int) < S.size := by omega
       rw [lines_stop (by rw [ba_len]; exact hlt)] at hlr; have HXf := Lib.hid (HX.out.trans hlr.symm); have c17 := hpc.c17; rw [hst.sp] at c17; clear hlr hV hpc hst hlt
       by_cases h0 : S.size = 0
       · have Hlen := Lib.hid (show S.data.toList.length = 0 by rw [ba_len]; exact h0); have e3 : S.toList.isEmpty = true := by rw [ByteArray.toList_eq, List.eq_nil_of_length_eq_zero Hlen.out]; rfl
         have HP := HPr; clear h0 c17; have HP1 := Lib.hid (HP.out.setC cvZ); have c3 := HP1.out.e.cell; have f3 := HP1.out.e.free 0; have HP2 := Lib.hid (HP1.out.setE 170); have c4 := HP2.out.a.cell; have f4 := HP2.out.a.free 0; have HP3 := Lib.hid (HP2.out.setA 0); wkka (first | (refine store_cbox HP.out.c cvZ ⟨rfl, rfl, rfl, rfl, rfl, rfl⟩ _ _ rfl rfl rfl ?_; dsimp only [Act.put])); refine leaves_cons (f := 10) (args := #[.pointer (some ⟨b2, 0, none⟩), .pointer (some ⟨b3, 0, none⟩), .pointer (some ⟨b4, 0, none⟩)]) (by simp) (by simp [go_sem]) ?_
         refine (cdoor_idle _ _ _ _).mono ?_; rintro e u' w'' ⟨rfl, rfl, rfl⟩; exact ⟨_, HP3.out.res rfl _ rfl rfl rfl, cvZ, 170, 0, rfl, by rw [HZ.out]; exact HP3.out.bel, parsC_nil HL.out HXf.out Hlen.out⟩
       · have Hlen := Lib.hid (show ¬ S.data.toList.length = 0 by rw [ba_len]; exact h0); have e3 : S.toList.isEmpty = false := by
           rw [ByteArray.toList_eq]
           cases hh : S.data.toList with
           | nil => exact absurd (by rw [hh]; rfl) Hlen.out
           | cons a b => rfl
         clear h0
         cases hsp : st.split with
         | false =>
           rw [hsp] at c17; have HP := HPr; have Hsp := Lib.hid hsp; clear hsp; have HP1 := Lib.hid (HP.out.setC cvZ); have c3 := HP1.out.e.cell; have f3 := HP1.out.e.free 0; have HP2 := Lib.hid (HP1.out.setE 172); have c4 := HP2.out.a.cell; have f4 := HP2.out.a.free 0; have HP3 := Lib.hid (HP2.out.setA S.size); wkka (first | (refine store_cbox HP.out.c cvZ ⟨rfl, rfl, rfl, rfl, rfl, rfl⟩ _ _ rfl rfl rfl ?_; dsimp only [Act.put]))
           refine leaves_cons (f := 10) (args := #[.pointer (some ⟨b2, 0, none⟩), .pointer (some ⟨b3, 0, none⟩), .pointer (some ⟨b4, 0, none⟩)]) (by simp) (by simp [go_sem]) ?_; refine (cdoor_idle _ _ _ _).mono ?_; rintro e u' w'' ⟨rfl, rfl, rfl⟩; exact ⟨_, HP3.out.res rfl _ rfl rfl rfl, cvZ, 172, S.size, rfl, by rw [HZ.out]; exact HP3.out.bel, by rw [← ba_len]; exact parsC_split HL.out HXf.out Hlen.out Hsp.out⟩
         | true =>
           rw [hsp] at c17; have Hsp : Hid (¬ st.split = false) := Lib.hid (by rw [hsp]; decide); obtain ⟨hone, hcf⟩ := HSx.out.conf HSh.out; have hr := config_Right 30 V.r V.p V.m V.n V.b V.a st.c wr hcf; clear hsp hcf; wkka (first | (with_reducible refine load_mid_cf HPc.out _ rfl rfl ?_; dsimp only [Act.put])); refine Calls.mono (hr) ?_; rintro _ wx ⟨rfl, hbx⟩; dsimp only; have HP := Lib.hid (HPr.out.keep hbx); have HPx := Lib.hid (HPc.out.keep hbx); have HSx2 := Lib.hid (HSx.out.below hbx); clear hr hbx c17
           by_cases hz : confE 30 st.c = 0
           · have Hz := Lib.hid hz; have hz' : (confE 30 st.c != 0) = false := by rw [hz]; rfl
             have HP1 := Lib.hid (HP.out.setC V); have c3 := HP1.out.e.cell; have f3 := HP1.out.e.free 0; have HP2 := Lib.hid (HP1.out.setE 0); have c4 := HP2.out.a.cell; have f4 := HP2.out.a.free 0; have HP3 := Lib.hid (HP2.out.setA 0); have Hb := Lib.hid (HP.out.lt); have Hba := Lib.hid (HP.out.a.lt); obtain ⟨E, hE⟩ : ∃ E, confE 30 st.c = E := ⟨_, rfl⟩; have HEE := Lib.hid hE; rw [hE] at hz' Hz ⊢; clear hz hE
             wkka (first | (with_reducible refine load_mid_cf HPx.out _ rfl rfl ?_; dsimp only [Act.put]) | (refine store_cbox HP.out.c V hone _ _ rfl rfl rfl ?_; dsimp only [Act.put])); have hlt3 := Hb.out; have hlt4 := Hba.out; have hsz3 : (((wx.setRow b2 (cfC V.r V.p V.m V.n V.b V.a)).setCell ⟨b3, 0, none⟩ (.int .i64 0)).setCell ⟨b4, 0, none⟩ (.int .i64 0)).heap.size = wx.heap.size := by simp [World.setCell]
             have hoth : ∀ k, b4 < k → (((wx.setRow b2 (cfC V.r V.p V.m V.n V.b V.a)).setCell ⟨b3, 0, none⟩ (.int .i64 0)).setCell ⟨b4, 0, none⟩ (.int .i64 0)).heap[k]? = wx.heap[k]? := fun k hk => by
               rw [Below.heap_setCell _ _ _ _ (by dsimp only; omega), Below.heap_setCell _ _ _ _ (by dsimp only; omega), setRow_other _ _ _ _ (by omega)]
             have hS9 := HSx2.out.keep (w' := ((wx.setRow b2 (cfC V.r V.p V.m V.n V.b V.a)).setCell ⟨b3, 0, none⟩ (.int .i64 0)).setCell ⟨b4, 0, none⟩ (.int .i64 0)) (fun k hk _ => hoth k (by omega)) (by rw [hsz3]; exact Nat.le_refl _) (by
               have := HSx2.out.kv; unfold KvAt at this ⊢
               rw [hoth _ (by rw [HV.out]; exact hb4m)]; exact this)
             have Hc9 := Lib.hid (hS9.conf HSh.out).2; refine leaves_cons (f := 10) (args := #[.pointer (some ⟨b2, 0, none⟩), .pointer (some ⟨b3, 0, none⟩), .pointer (some ⟨b4, 0, none⟩)]) (by simp) (by simp [go_sem]) ?_; refine (cdoor_idle _ _ _ _).mono ?_; rintro e u' w'' ⟨rfl, rfl, rfl⟩; exact ⟨_, HP3.out.res rfl _ rfl rfl rfl, V, 0, 0, rfl, by rw [HZ.out]; exact HP3.out.bel, parsC_ok HL.out HXf.out Hlen.out Hsp.out Hc9.out (by rw [HEE.out]; exact Hz.out)⟩
           · have Hz := Lib.hid hz; have hz' : (confE 30 st.c != 0) = true := bne_iff_ne.2 hz; obtain ⟨E, hE⟩ : ∃ E, confE 30 st.c = E := ⟨_, rfl⟩; have HE := Lib.hid hE; rw [hE] at hz' ⊢; clear hz hE; have HP1 := Lib.hid (HP.out.setC cvZ); have c3 := HP1.out.e.cell; have f3 := HP1.out.e.free 0; have HP2 := Lib.hid (HP1.out.setE E); have c4 := HP2.out.a.cell; have f4 := HP2.out.a.free 0; have HP3 := Lib.hid (HP2.out.setA S.size); wkka (first | (refine store_cbox HP.out.c cvZ ⟨rfl, rfl, rfl, rfl, rfl, rfl⟩ _ _ rfl rfl rfl ?_; dsimp only [Act.put]))
             refine leaves_cons (f := 10) (args := #[.pointer (some ⟨b2, 0, none⟩), .pointer (some ⟨b3, 0, none⟩), .pointer (some ⟨b4, 0, none⟩)]) (by simp) (by simp [go_sem]) ?_; refine (cdoor_idle _ _ _ _).mono ?_; rintro e u' w'' ⟨rfl, rfl, rfl⟩; exact ⟨_, HP3.out.res rfl _ rfl rfl rfl, cvZ, E, S.size, rfl, by rw [HZ.out]; exact HP3.out.bel, by rw [← ba_len, ← HE.out]; exact parsC_right HL.out HXf.out Hlen.out Hsp.out Hz.out⟩
open Go.RowKit Go.Lib
set_option maxRecDepth 100000 in
set_option maxHeartbeats 1000000 in
theorem ints_like (v1 v2 : Value) (l : List Int) (w : World) (h1 : RowOf intC 1 w v1 l) (h2 : RowOf intC 1 w v2 l) :
   Calls Tryd.prog 18 #[v1, v2] w fun e w' => e = .returned (.bool true) ∧ Below w.heap.size w w' := by
 obtain ⟨a1, cap1, rfl, hcap1, hmx1, hcell1⟩ := h1.open intC_len17; obtain ⟨a2, cap2, rfl, hcap2, hmx2, hcell2⟩ := h2.open intC_len17; obtain ⟨n, hn⟩ : ∃ n, l.length = n := ⟨_, rfl⟩; rw [hn] at hcap1 hcell1 hcap2 hcell2 ⊢; have Hn := Lib.hid hn; clear hn h1 h2; unfold maxLen at hmx1 hmx2; go_enter Tryd.func18, Tryd.ntmps18; wkk
 go_loopg [5, 13] n (fun gk _ s13 w' => ∃ k : Nat, s13 = .int .i64 k ∧ k + gk = n ∧ Hid (Below w.heap.size w w'))
 case atStart => exact ⟨0, rfl, Nat.zero_add _, Lib.hid (Below.refl _ _)⟩
 case round =>
   obtain ⟨k, rfl, hk, Hb⟩ := hrel
   by_cases hlt : k < n
   · rcases hcell1 with h0 | ⟨b1, o1, rfl, hb1, hcell1⟩
     · omega
     rcases hcell2 with h0 | ⟨b2, o2, rfl, hb2, hcell2⟩
     · omega
     obtain ⟨x, hx⟩ : ∃ x, l[k]? = some x := ⟨_, List.getElem?_eq_getElem (by rw [Hn.out]; exact hlt)⟩; have c0 := hcell1 k x 0 hx (by decide); have d0 := hcell2 k x 0 hx (by decide); rw [Nat.mul_one, Nat.add_zero] at c0 d0; clear hcell1 hcell2 hx; have hl1 : b1 < wr.heap.size := Nat.lt_of_lt_of_le hb1 Hb.out.size; have hl2 : b2 < wr.heap.size := Nat.lt_of_lt_of_le hb2 Hb.out.size; have q0 : ∀ nq : WB wr, nq.1.cell? ⟨b1, o1 + k, none⟩ = some (.int .i64 x) := fun nq => by rw [nq.cell hl1, Hb.out.cell (show b1 < w.heap.size from hb1)]; exact c0
     have q1 : ∀ nq : WB wr, nq.1.cell? ⟨b2, o2 + k, none⟩ = some (.int .i64 x) := fun nq => by rw [nq.cell hl2, Hb.out.cell (show b2 < w.heap.size from hb2)]; exact d0
     clear c0 d0; wkk; refine wp_region_wb (by kernel_rfl) (by kernel_rfl) wr (Below.refl _ _) ?_
     repeat (go_big_quiet_step ((fail)))
     refine wpQuiet_nil ?_; rintro _ ⟨nq, rfl⟩; have hnq := nq.2; clear q0 q1; wkk; go_roundg (gk - 1)
     case rel => exact ⟨k + 1, by go_num, by omega, Lib.hid (Hb.out.trans (hnq.mono Hb.out.size))⟩
     case measure => omega
   · obtain rfl : n = k := by omega
     wkk; go_ret; exact ⟨rfl, Hb.out⟩
/-- two configurations in variables -/
structure C2 (w0 : World) (g1 g2 : Nat) (V1 V2 : CV) (w : World) : Prop where
 bel : Below w0.heap.size w0 w
 b1 : CBox w g1 V1.r V1.p V1.m V1.n V1.b V1.a
 b2 : CBox w g2 V2.r V2.p V2.m V2.n V2.b V2.a
theorem C2.step {w0 w w' : World} {g1 g2 : Nat} {V1 V2 : CV} (h : C2 w0 g1 g2 V1 V2 w) (hb : Below w.heap.size w w') : C2 w0 g1 g2 V1 V2 w' :=
 ⟨h.bel.trans (hb.mono h.bel.size), h.b1.keep hb, h.b2.keep hb⟩
theorem row_at {α : Type} {f : α → List Value} {sz : Nat} {w : World} {b off : Nat} {l : List α} {i : Nat} {x : α} (hc : ∀ (i : Nat) (x : α) (j : Nat), l[i]? = some x → j < sz → w.cell? ⟨b, off + (i * sz + j), none⟩ = (f x)[j]?) (hx : l[i]? = some x) (j : Nat) (hj : j < sz) {w1 w2 : World} {C : Nat} (h1 : Below w.heap.size w w1) (hb : b < w.heap.size) (h2 : Below C w1 w2) (hC : w.heap.size ≤ C) : w2.cell? ⟨b, off + (i * sz + j), none⟩ = (f x)[j]? := by
 have hb2 : w2.heap[b]? = w.heap[b]? := (h2.block b (by omega)).trans (h1.block b hb); rw [World.cell?_of_block (w := w) hb2]; exact hc i x j hx hj
set_option maxRecDepth 100000 in
set_option maxHeartbeats 4000000 in
theorem conf_like (k : Nat) (V1 V2 : CV) (c : ConfP) (w : World) (H1 : CfAt w k V1.r V1.p V1.m V1.n V1.b V1.a c) (H2 : CfAt w k V2.r V2.p V2.m V2.n V2.b V2.a c) :
   Calls Tryd.prog 7 #[cfV V1, cfV V2] w fun e w' => e = .returned (.bool true) ∧ Below w.heap.size w w' := by
 obtain ⟨vs1, hp1, hpl1, hpr1⟩ := H1.ps; obtain ⟨vs2, hp2, hpl2, hpr2⟩ := H2.ps; have HR := Lib.hid fun W (hW : Below w.heap.size w W) => like_same k V1.r V2.r c.re W (H1.re.keep hW) (H2.re.keep hW)
 have HB := Lib.hid fun W (hW : Below w.heap.size w W) => ints_like V1.b V2.b c.bf W (H1.bf.keep hW) (H2.bf.keep hW)
 have HA := Lib.hid fun W (hW : Below w.heap.size w W) => ints_like V1.a V2.a c.af W (H1.af.keep hW) (H2.af.keep hW)
 obtain ⟨ap1, cp1, ep1, lp1, mp1, cc1⟩ := hp1.open oneC_len; obtain ⟨ap2, cp2, ep2, _, mp2, cc2⟩ := hp2.open oneC_len; obtain ⟨am1, cm1, em1, lm1, mm1, cm1'⟩ := H1.ms.open mgC_len; obtain ⟨am2, cm2, em2, _, mm2, cm2'⟩ := H2.ms.open mgC_len; obtain ⟨an1, cn1, en1, ln1, mn1, cn1'⟩ := H1.ns.open strC_len17; obtain ⟨an2, cn2, en2, _, mn2, cn2'⟩ := H2.ns.open strC_len17; rw [hpl1] at ep1 cc1; rw [hpl2] at ep2 cc2; have HPR1 := Lib.hid hpr1; have HPR2 := Lib.hid hpr2; have HPL1 := Lib.hid hpl1; have HPL2 := Lib.hid hpl2; obtain ⟨np, hnp⟩ : ∃ n, c.ps.length = n := ⟨_, rfl⟩
 obtain ⟨nm, hnm⟩ : ∃ n, c.ms.length = n := ⟨_, rfl⟩; obtain ⟨nn, hnn⟩ : ∃ n, c.ns.length = n := ⟨_, rfl⟩; rw [hnp] at ep1 ep2 cc1 cc2; rw [hnm] at em1 em2 cm1' cm2'; rw [hnn] at en1 en2 cn1' cn2'; have Hnp := Lib.hid hnp; have Hnm := Lib.hid hnm; have Hnn := Lib.hid hnn; have CC1 := Lib.hid cc1; have CC2 := Lib.hid cc2; have CM1 := Lib.hid cm1'; have CM2 := Lib.hid cm2'; have CN1 := Lib.hid cn1'; have CN2 := Lib.hid cn2'; have hmp : np ≤ 9223372036854775807 := by unfold maxLen at *; omega
 have hmm : nm ≤ 9223372036854775807 := by unfold maxLen at *; omega
 have hmn : nn ≤ 9223372036854775807 := by unfold maxLen at *; omega
 have Hep1 := Lib.hid ep1; have Hep2 := Lib.hid ep2; have Hem1 := Lib.hid em1; have Hem2 := Lib.hid em2; have Hen1 := Lib.hid en1; have Hen2 := Lib.hid en2; have HM : Hid (C2 w w.heap.size (w.heap.size + 1) V1 V2 ((w.alloc (.cells (cfC V1.r V1.p V1.m V1.n V1.b V1.a) 36)).alloc (.cells (cfC V2.r V2.p V2.m V2.n V2.b V2.a) 36))) := Lib.hid
   ⟨((Below.refl _ _).alloc (Nat.le_refl _) _).alloc (by simp) _, (CBox.new w _ _ _ _ _ _).keep ((Below.refl _ _).alloc (Nat.le_refl _) _), by
     have := CBox.new (w.alloc (.cells (cfC V1.r V1.p V1.m V1.n V1.b V1.a) 36)) V2.r V2.p V2.m V2.n V2.b V2.a
     rw [World.size_alloc] at this; exact this⟩
 clear lp1 lm1 ln1 H1 H2 hp1 hp2 hpl1 hpl2 hpr1 hpr2 cc1 cc2 cm1' cm2' cn1' cn2' hnp hnm hnn mp1 mp2 mm1 mm2 mn1 mn2 ep1 ep2 em1 em2 en1 en2; go_enter Tryd.func7, Tryd.ntmps7
 repeat' (go_not_at_region 1; first | go_values | go_skip | go_guarded | go_step | go_upon)
 change Code.wp _ _ _ _ ((w.alloc (.cells (cfC V1.r V1.p V1.m V1.n V1.b V1.a) 36)).alloc (.cells (cfC V2.r V2.p V2.m V2.n V2.b V2.a) 36)); obtain ⟨g1, hg1⟩ : ∃ g, w.heap.size = g := ⟨_, rfl⟩; refine gen_wd (fun W => C2 w g1 (g1 + 1) V1 V2 W) (by rw [← hg1]; exact HM.out) ?_; rw [hg1]; generalize g1 + 1 = g2; clear HM hg1; intro wa hma; have H0 := Lib.hid hma; obtain ⟨z0, z1, z2, z3, z4, z5, z6, z7, z8, z9, z10, z11, z12⟩ := hma.b1.cells; obtain ⟨y0, y1, y2, y3, y4, y5, y6, y7, y8, y9, y10, y11, y12⟩ := hma.b2.cells; rw [Hep1.out] at z0; rw [Hep2.out] at y0; rw [Hem1.out] at z9
 rw [Hem2.out] at y9; rw [Hen1.out] at z10; rw [Hen2.out] at y10; clear hma; wkk; refine Calls.mono (HR.out _ H0.out.bel) ?_; rintro _ wb ⟨rfl, hbb⟩; dsimp only; have H1 := Lib.hid (H0.out.step hbb); clear z0 z1 z2 z3 z4 z5 z6 z7 z8 z9 z10 z11 z12 y0 y1 y2 y3 y4 y5 y6 y7 y8 y9 y10 y11 y12 hbb H0; have z11 := H1.out.b1.cells.2.2.2.2.2.2.2.2.2.2.2.1; have y11 := H1.out.b2.cells.2.2.2.2.2.2.2.2.2.2.2.1; wkk; refine Calls.mono (HB.out wb H1.out.bel) ?_; rintro _ wc ⟨rfl, hbb⟩; dsimp only; have H2 := Lib.hid (H1.out.step hbb); clear z11 y11 hbb H1
 have z12 := H2.out.b1.cells.2.2.2.2.2.2.2.2.2.2.2.2; have y12 := H2.out.b2.cells.2.2.2.2.2.2.2.2.2.2.2.2; wkk; refine Calls.mono (HA.out wc H2.out.bel) ?_; rintro _ wd ⟨rfl, hbb⟩; dsimp only; have H3 := Lib.hid (H2.out.step hbb); clear z12 y12 hbb H2 HR HA HB; have z0 : wd.cell? ⟨g1, 0, none⟩ = some (.slice ap1 np cp1) := by rw [H3.out.b1.cells.1, Hep1.out]
 wkk; clear z0
 go_loopg [61] np (fun gk s61 wr => ∃ i : Nat, s61 = .int .i64 (i : Int) ∧ i + gk = np ∧ Hid (C2 w g1 g2 V1 V2 wr))
 case atStart => exact ⟨0, rfl, Nat.zero_add _, H3⟩
 case round =>
   clear H3; obtain ⟨i, rfl, hi, HC⟩ := hrel
   by_cases hlt : i < np
   · have hlt' : (i : Int) < np := by omega
     rcases CC1.out with h0 | ⟨b1, o1, e1, hb1, hc1⟩
     · omega
     rcases CC2.out with h0 | ⟨b2, o2, e2, hb2, hc2⟩
     · omega
     subst e1 e2; obtain ⟨u1, hu1⟩ : ∃ u, vs1[i]? = some u := ⟨_, List.getElem?_eq_getElem (by have := HPL1.out; have := Hnp.out; omega)⟩; obtain ⟨u2, hu2⟩ : ∃ u, vs2[i]? = some u := ⟨_, List.getElem?_eq_getElem (by have := HPL2.out; have := Hnp.out; omega)⟩; obtain ⟨l, hl⟩ : ∃ l, c.ps[i]? = some l := ⟨_, List.getElem?_eq_getElem (by have := Hnp.out; omega)⟩; obtain ⟨au1, cu1, rfl, lu1, mu1, hr1⟩ := (HPR1.out i u1 l hu1 hl).open ruC_len; obtain ⟨au2, cu2, rfl, _, _, hr2⟩ := (HPR2.out i u2 l hu2 hl).open ruC_len; obtain ⟨nl, hnl⟩ : ∃ n, l.length = n := ⟨_, rfl⟩
     rw [hnl] at hu1 hu2 hr1 hr2 lu1; have hml : nl ≤ 9223372036854775807 := by unfold maxLen at mu1; omega
     have q1 : ∀ W, C2 w g1 g2 V1 V2 W → W.cell? ⟨b1, o1 + i, none⟩ = some (.slice au1 nl cu1) := fun W h => by
       have := row_at hc1 hu1 0 (by decide) h.bel hb1 (Below.refl w.heap.size W) (Nat.le_refl _); rw [show i * 1 + 0 = i by omega] at this; exact this
     have q2 : ∀ W, C2 w g1 g2 V1 V2 W → W.cell? ⟨b2, o2 + i, none⟩ = some (.slice au2 nl cu2) := fun W h => by
       have := row_at hc2 hu2 0 (by decide) h.bel hb2 (Below.refl w.heap.size W) (Nat.le_refl _); rw [show i * 1 + 0 = i by omega] at this; exact this
     have Q1 := Lib.hid q1; have Q2 := Lib.hid q2; have HR1 := Lib.hid hr1; have HR2 := Lib.hid hr2; have Hnl := Lib.hid hnl; have a0 : ∀ nq : WB wr, nq.1.cell? ⟨g1, 0, none⟩ = some (.slice (some ⟨b1, o1, none⟩) np cp1) := fun nq => by rw [(HC.out.step nq.2).b1.cells.1, Hep1.out]
     have a1 : ∀ nq : WB wr, nq.1.cell? ⟨g2, 0, none⟩ = some (.slice (some ⟨b2, o2, none⟩) np cp2) := fun nq => by rw [(HC.out.step nq.2).b2.cells.1, Hep2.out]
     have a2 : ∀ nq : WB wr, nq.1.cell? ⟨b1, o1 + i, none⟩ = some (.slice au1 nl cu1) := fun nq => Q1.out _ (HC.out.step nq.2)
     have a3 : ∀ nq : WB wr, nq.1.cell? ⟨b2, o2 + i, none⟩ = some (.slice au2 nl cu2) := fun nq => Q2.out _ (HC.out.step nq.2)
     obtain ⟨gz, hgz⟩ : ∃ gz, gz = gk - 1 := ⟨_, rfl⟩; have hi1 : i + 1 + gz = np := by omega
     have hgk : gz < gk := by omega
     clear hgz; clear hc1 hc2 hu1 hu2 hl hr1 hr2 hnl lu1 mu1 q1 q2 hi; wkk; refine wp_region_wb (by kernel_rfl) (by kernel_rfl) wr (Below.refl _ _) ?_
     repeat (go_big_quiet_step ((fail)))
     refine wpQuiet_nil ?_; rintro _ ⟨nq, rfl⟩; have hnq := nq.2; have HC1 := Lib.hid (HC.out.step hnq); clear a0 a1 a2 a3 hnq HC; have a0 : nq.1.cell? ⟨g1, 0, none⟩ = some (.slice (some ⟨b1, o1, none⟩) np cp1) := by rw [HC1.out.b1.cells.1, Hep1.out]
     have a2 : nq.1.cell? ⟨b1, o1 + i, none⟩ = some (.slice au1 nl cu1) := Q1.out _ HC1.out; wkk; clear a0 a2
     go_loopg [83] nl (fun gk2 s83 wr2 => ∃ j : Nat, s83 = .int .i64 (j : Int) ∧ j + gk2 = nl ∧ Hid (C2 w g1 g2 V1 V2 wr2))
     case atStart => exact ⟨0, rfl, Nat.zero_add _, HC1⟩
     case round =>
       clear HC1; obtain ⟨j, rfl, hj, HD⟩ := hrel
       by_cases hjt : j < nl
       · have hjt' : (j : Int) < nl := by omega
         rcases HR1.out with h0 | ⟨d1, e1, f1, hd1, hx1⟩
         · omega
         rcases HR2.out with h0 | ⟨d2, e2, f2, hd2, hx2⟩
         · omega
         subst f1 f2; obtain ⟨x, hx⟩ : ∃ x, l[j]? = some x := ⟨_, List.getElem?_eq_getElem (by have := Hnl.out; omega)⟩; have a0 : ∀ nq : WB wr, nq.1.cell? ⟨g1, 0, none⟩ = some (.slice (some ⟨b1, o1, none⟩) np cp1) := fun nq => by rw [(HD.out.step nq.2).b1.cells.1, Hep1.out]
         have a1 : ∀ nq : WB wr, nq.1.cell? ⟨g2, 0, none⟩ = some (.slice (some ⟨b2, o2, none⟩) np cp2) := fun nq => by rw [(HD.out.step nq.2).b2.cells.1, Hep2.out]
         have a2 : ∀ nq : WB wr, nq.1.cell? ⟨b1, o1 + i, none⟩ = some (.slice (some ⟨d1, e1, none⟩) nl cu1) := fun nq => Q1.out _ (HD.out.step nq.2)
         have a3 : ∀ nq : WB wr, nq.1.cell? ⟨b2, o2 + i, none⟩ = some (.slice (some ⟨d2, e2, none⟩) nl cu2) := fun nq => Q2.out _ (HD.out.step nq.2)
         have a4 : ∀ nq : WB wr, nq.1.cell? ⟨d1, e1 + j * 2, none⟩ = some (.string ⟨x.1.toArray⟩) := fun nq => row_at hx1 hx 0 (by decide) HD.out.bel hd1 nq.2 HD.out.bel.size
         have a5 : ∀ nq : WB wr, nq.1.cell? ⟨d1, e1 + j * 2 + 1, none⟩ = some (.string ⟨x.2.toArray⟩) := fun nq => row_at hx1 hx 1 (by decide) HD.out.bel hd1 nq.2 HD.out.bel.size
         have a6 : ∀ nq : WB wr, nq.1.cell? ⟨d2, e2 + j * 2, none⟩ = some (.string ⟨x.1.toArray⟩) := fun nq => row_at hx2 hx 0 (by decide) HD.out.bel hd2 nq.2 HD.out.bel.size
         have a7 : ∀ nq : WB wr, nq.1.cell? ⟨d2, e2 + j * 2 + 1, none⟩ = some (.string ⟨x.2.toArray⟩) := fun nq => row_at hx2 hx 1 (by decide) HD.out.bel hd2 nq.2 HD.out.bel.size
         obtain ⟨x1, x2⟩ := x; dsimp only at a4 a5 a6 a7; generalize (⟨x1.toArray⟩ : ByteArray) = X1 at a4 a6; generalize (⟨x2.toArray⟩ : ByteArray) = X2 at a5 a7; have hj1 : j + 1 + (gk - 1) = nl := by omega
         have hgk2 : gk - 1 < gk := by omega
         clear hx1 hx2 hx hj; wkk; refine wp_region_wb (by kernel_rfl) (by kernel_rfl) wr (Below.refl _ _) ?_
         repeat (go_big_quiet_step ((fail)))
         refine wpQuiet_nil ?_; rintro _ ⟨nq, rfl⟩; have hnq := nq.2; have HD1 := Lib.hid (HD.out.step hnq); clear a0 a1 a2 a3 a4 a5 a6 a7 hnq HD; wkk; go_roundg (gk - 1)
         case rel => exact ⟨j + 1, by go_num, hj1, HD1⟩
         case measure => exact hgk2
       · have hjt' : ¬ (j : Int) < nl := by omega
         clear hj; wkk; go_roundg gz
         case rel => exact ⟨i + 1, by go_num, hi1, HD⟩
         case measure => exact hgk
   · have hlt' : ¬ (i : Int) < np := by omega
     have z9 : wr.cell? ⟨g1, 9, none⟩ = some (.slice am1 nm cm1) := by rw [HC.out.b1.cells.2.2.2.2.2.2.2.2.2.1, Hem1.out]
     clear hi hlt; wkk; clear z9
     go_loopg [108] nm (fun gk s108 wr => ∃ i : Nat, s108 = .int .i64 (i : Int) ∧ i + gk = nm ∧ Hid (C2 w g1 g2 V1 V2 wr))
     case atStart => exact ⟨0, rfl, Nat.zero_add _, HC⟩
     case round =>
       clear HC; obtain ⟨i, rfl, hi, HC⟩ := hrel
       by_cases hlt : i < nm
       · have hlt' : (i : Int) < nm := by omega
         rcases CM1.out with h0 | ⟨b1, o1, e1, hb1, hc1⟩
         · omega
         rcases CM2.out with h0 | ⟨b2, o2, e2, hb2, hc2⟩
         · omega
         subst e1 e2; obtain ⟨x, hx⟩ : ∃ x, c.ms[i]? = some x := ⟨_, List.getElem?_eq_getElem (by have := Hnm.out; omega)⟩; have a0 : ∀ nq : WB wr, nq.1.cell? ⟨g1, 9, none⟩ = some (.slice (some ⟨b1, o1, none⟩) nm cm1) := fun nq => by rw [(HC.out.step nq.2).b1.cells.2.2.2.2.2.2.2.2.2.1, Hem1.out]
         have a1 : ∀ nq : WB wr, nq.1.cell? ⟨g2, 9, none⟩ = some (.slice (some ⟨b2, o2, none⟩) nm cm2) := fun nq => by rw [(HC.out.step nq.2).b2.cells.2.2.2.2.2.2.2.2.2.1, Hem2.out]
         have a2 : ∀ nq : WB wr, nq.1.cell? ⟨b1, o1 + i * 2, none⟩ = some (.int .i64 x.1) := fun nq => row_at hc1 hx 0 (by decide) HC.out.bel hb1 nq.2 HC.out.bel.size
         have a3 : ∀ nq : WB wr, nq.1.cell? ⟨b1, o1 + i * 2 + 1, none⟩ = some (.int .i64 x.2) := fun nq => row_at hc1 hx 1 (by decide) HC.out.bel hb1 nq.2 HC.out.bel.size
         have a4 : ∀ nq : WB wr, nq.1.cell? ⟨b2, o2 + i * 2, none⟩ = some (.int .i64 x.1) := fun nq => row_at hc2 hx 0 (by decide) HC.out.bel hb2 nq.2 HC.out.bel.size
         have a5 : ∀ nq : WB wr, nq.1.cell? ⟨b2, o2 + i * 2 + 1, none⟩ = some (.int .i64 x.2) := fun nq => row_at hc2 hx 1 (by decide) HC.out.bel hb2 nq.2 HC.out.bel.size
         have hi1 : i + 1 + (gk - 1) = nm := by omega
         have hgk : gk - 1 < gk := by omega
         obtain ⟨x1, x2⟩ := x; dsimp only at a2 a3 a4 a5; clear hc1 hc2 hx hi; wkk; refine wp_region_wb (by kernel_rfl) (by kernel_rfl) wr (Below.refl _ _) ?_
         repeat (go_big_quiet_step ((fail)))
         refine wpQuiet_nil ?_; rintro _ ⟨nq, rfl⟩; have hnq := nq.2; have HC1 := Lib.hid (HC.out.step hnq); clear a0 a1 a2 a3 a4 a5 hnq HC; wkk; go_roundg (gk - 1)
         case rel => exact ⟨i + 1, by go_num, hi1, HC1⟩
         case measure => exact hgk
       · have hlt' : ¬ (i : Int) < nm := by omega
         have z10 : wr.cell? ⟨g1, 10, none⟩ = some (.slice an1 nn cn1) := by rw [HC.out.b1.cells.2.2.2.2.2.2.2.2.2.2.1, Hen1.out]
         clear hi hlt; wkk; clear z10
         go_loopg [126] nn (fun gk s126 wr => ∃ i : Nat, s126 = .int .i64 (i : Int) ∧ i + gk = nn ∧ Hid (C2 w g1 g2 V1 V2 wr))
         case atStart => exact ⟨0, rfl, Nat.zero_add _, HC⟩
         case round =>
           clear HC; obtain ⟨i, rfl, hi, HC⟩ := hrel
           by_cases hlt : i < nn
           · have hlt' : (i : Int) < nn := by omega
             rcases CN1.out with h0 | ⟨b1, o1, e1, hb1, hc1⟩
             · omega
             rcases CN2.out with h0 | ⟨b2, o2, e2, hb2, hc2⟩
             · omega
             subst e1 e2; obtain ⟨x, hx⟩ : ∃ x, c.ns[i]? = some x := ⟨_, List.getElem?_eq_getElem (by have := Hnn.out; omega)⟩; have a0 : ∀ nq : WB wr, nq.1.cell? ⟨g1, 10, none⟩ = some (.slice (some ⟨b1, o1, none⟩) nn cn1) := fun nq => by rw [(HC.out.step nq.2).b1.cells.2.2.2.2.2.2.2.2.2.2.1, Hen1.out]
             have a1 : ∀ nq : WB wr, nq.1.cell? ⟨g2, 10, none⟩ = some (.slice (some ⟨b2, o2, none⟩) nn cn2) := fun nq => by rw [(HC.out.step nq.2).b2.cells.2.2.2.2.2.2.2.2.2.2.1, Hen2.out]
             have a2 : ∀ nq : WB wr, nq.1.cell? ⟨b1, o1 + i, none⟩ = some (.string ⟨x.toArray⟩) := fun nq => by
               have := row_at hc1 hx 0 (by decide) HC.out.bel hb1 nq.2 HC.out.bel.size; rw [show i * 1 + 0 = i by omega] at this; exact this
             have a3 : ∀ nq : WB wr, nq.1.cell? ⟨b2, o2 + i, none⟩ = some (.string ⟨x.toArray⟩) := fun nq => by
               have := row_at hc2 hx 0 (by decide) HC.out.bel hb2 nq.2 HC.out.bel.size; rw [show i * 1 + 0 = i by omega] at this; exact this
             generalize (⟨x.toArray⟩ : ByteArray) = X at a2 a3; have hi1 : i + 1 + (gk - 1) = nn := by omega
             have hgk : gk - 1 < gk := by omega
             clear hc1 hc2 hx hi; wkk; refine wp_region_wb (by kernel_rfl) (by kernel_rfl) wr (Below.refl _ _) ?_
             repeat (go_big_quiet_step ((fail)))
             refine wpQuiet_nil ?_; rintro _ ⟨nq, rfl⟩; have hnq := nq.2; have HC1 := Lib.hid (HC.out.step hnq); clear a0 a1 a2 a3 hnq HC; wkk; go_roundg (gk - 1)
             case rel => exact ⟨i + 1, by go_num, hi1, HC1⟩
             case measure => exact hgk
           · have hlt' : ¬ (i : Int) < nn := by omega
             clear hi hlt; wkk; go_ret; exact ⟨rfl, HC.out.bel⟩
open Go.RowKit Go.Lib
/-- its failing has a number, and a place -/
def NB {α : Type} (x : PR α) (n : Nat) : Prop := ∀ e j, x = .bad e j → e ≠ 0 ∧ j ≤ n
section
variable {α β : Type} {n : Nat}
theorem NB.bind {x : PR α} {f : α → Nat → PR β} (hx : NB x n) (hf : ∀ a i, x = .ok a i → NB (f a i) n) : NB (x.bind f) n := by
 intro e j h
 cases x with
 | ok a i => exact hf a i rfl e j h
 | bad e' i => exact hx e j (by cases h; rfl)
 | out => cases h
theorem NB.ok (a : α) (i : Nat) : NB (.ok a i : PR α) n := fun e j h => by cases h
theorem NB.bad {e j : Nat} (he : e ≠ 0) (hj : j ≤ n) : NB (.bad e j : PR α) n := fun e' j' h => by cases h; exact ⟨he, hj⟩
theorem NB.up {x : PR α} {m : Nat} (h : NB x n) (hm : n ≤ m) : NB x m := fun e j hx => ⟨(h e j hx).1, Nat.le_trans (h e j hx).2 hm⟩
end
section
variable {s : List UInt8} {en : Nat}
theorem must_nb : ∀ (u : List UInt8) (i : Nat), i ≤ en → NB (mustR s en u i) en
 | [], i, _ => by rw [mustR]; exact NB.ok _ _
 | c :: u, i, hi => by
   rw [mustR]; split
   · exact must_nb u (i + 1) (by omega)
   · exact NB.bad (by decide) hi
theorem done_nb {i : Nat} : NB (doneR en i) en := by
 unfold doneR; split
 · exact NB.bad (by decide) (by omega)
 · exact NB.ok _ _
theorem next_nb {i : Nat} (hi : i ≤ en) : NB (nextR s en i) en := by
 unfold nextR; split
 · exact NB.ok _ _
 · exact NB.bad (by decide) hi
theorem hexq_nb {i : Nat} (hi : i ≤ en) : NB (hexQ s en i) en := by
 unfold hexQ; refine (next_nb hi).bind fun c j _ => ?_
 split
 · exact NB.ok _ _
 · exact NB.bad (by decide) hi
theorem bsl_nb {i : Nat} (hi : i ≤ en) : NB (bslR s en i) en := by
 unfold bslR; refine (next_nb hi).bind fun c j hc => ?_
 have hj := ((nextR_in (s := s) hi).okB hc).2; split
 · exact NB.ok _ _
 split
 · exact NB.ok _ _
 split
 · exact NB.ok _ _
 split
 · exact NB.ok _ _
 split
 · exact (hexq_nb hj).bind fun a k hk => (hexq_nb ((hexQ_in hj).okB hk).2).bind fun _ _ _ => NB.ok _ _
 · exact NB.bad (by decide) hi
theorem qt_nb : ∀ (f : Nat) (b : List UInt8) (i : Nat), i ≤ en → NB (qtR s en f b i) en
 | 0, _, _, _ => fun e j h => by rw [qtR] at h; cases h
 | f + 1, b, i, hi => by
   rw [qtR]; refine (next_nb hi).bind fun c j hc => ?_
   have hj := ((nextR_in (s := s) hi).okB hc).2; split
   · exact NB.ok _ _
   split
   · exact NB.bad (by decide) hi
   split
   · exact qt_nb f _ j hj
   · exact (bsl_nb hj).bind fun c k hk => qt_nb f _ k ((bslR_in hj).okB hk).2
theorem quoted_nb {f i : Nat} (hi : i ≤ en) : NB (quotedR s en f i) en := by
 unfold quotedR; exact (must_nb [34] i hi).bind fun _ j hj => qt_nb f [] j ((mustR_in [34] i hi).okB hj).2
theorem known_nb {f i : Nat} {ns : List (List UInt8)} (hi : i ≤ en) : NB (knownR s en f ns i) en := by
 unfold knownR; refine (quoted_nb hi).bind fun n j _ => done_nb.bind fun _ k _ => ?_
 split
 · exact NB.ok _ _
 · exact NB.bad (by decide) hi
theorem id_nb {ids : List (List UInt8 × Int)} {t : List UInt8} {at' i : Nat} (hi : at' ≤ en) : NB (idR ids t at' i) en := by
 unfold idR; split
 · exact NB.ok _ _
 · split
   · exact NB.ok _ _
   · exact NB.bad (by decide) hi
theorem split_nb {i : Nat} (hi : i ≤ en) : NB (splitR s en i) en := by
 unfold splitR; split
 · split
   · exact NB.bad (by decide) hi
   · exact NB.ok _ _
 · rename_i e j hp; have h1 := prsA_le hp; rw [List.length_take] at h1; exact NB.bad (prsA_nz hp) (by omega)
 · exact fun e j h => by cases h
theorem agree_le2 : ∀ u l : List UInt8, agreeN u l ≤ l.length
 | [], l => by cases l <;> simp [agreeN]
 | c :: u, [] => by simp [agreeN]
 | c :: u, d :: l => by
   rw [agreeN]; split
   · have := agree_le2 u l; rw [List.length_cons]; omega
   · omega
theorem line_nb {f b : Nat} {st : CS} (hb : b ≤ en) : NB (lineR s en f b st) en := by
 by_cases h0 : b = en ∨ bt s b = 35
 · unfold lineR; rw [if_pos h0]; exact NB.ok _ _
 have hlen : ((s.drop b).take (en - b)).length ≤ en - b := List.length_take_le _ _
 cases hk : wordsC.findIdx? (fun w => w.isPrefixOf ((s.drop b).take (en - b))) with
 | none =>
   rw [lineR_none h0 hk]; refine NB.bad (by decide) ?_
   have : (wordsC.map fun w => agreeN w ((s.drop b).take (en - b))).foldl max 0 ≤ en - b := (fold_le _ _).2 ⟨Nat.zero_le _, fun x hx => by
     obtain ⟨w, _, rfl⟩ := List.mem_map.1 hx
     exact Nat.le_trans (agree_le2 _ _) hlen⟩
   omega
 | some k =>
   obtain ⟨hk7, hpre, _⟩ := List.findIdx?_eq_some_iff_getElem.1 hk; have hwl : (wordsC[k]).length ≤ en - b := Nat.le_trans (List.isPrefixOf_iff_prefix.1 hpre).length_le hlen; have hk7' : k < 7 := hk7
   rcases (by omega : k = 0 ∨ k = 1 ∨ k = 2 ∨ k = 3 ∨ k = 4 ∨ k = 5 ∨ k = 6) with rfl | rfl | rfl | rfl | rfl | rfl | rfl
   · rw [lineR_0 h0 hk]; refine done_nb.bind fun _ _ _ => ?_
     split
     · exact NB.bad (by decide) hb
     · exact NB.ok _ _
   · have h5 : b + 5 ≤ en := by have : 5 ≤ en - b := hwl; omega
     rw [lineR_1 h0 hk]; refine (quoted_nb h5).bind fun u i hu => ?_
     have hi := ((quotedR_in (s := s) (f := f) h5).okB hu).2; refine (must_nb _ i hi).bind fun _ j hm => ?_
     have hj := ((mustR_in (s := s) _ i hi).okB hm).2; refine (quoted_nb hj).bind fun v k _ => done_nb.bind fun _ _ _ => ?_
     split
     · exact NB.bad (by decide) hb
     · exact NB.ok _ _
   · have h6 : b + 6 ≤ en := by have : 6 ≤ en - b := hwl; omega
     rw [lineR_2 h0 hk]; split
     · exact NB.bad (by decide) hb
     · exact (split_nb h6).bind fun _ _ _ => NB.ok _ _
   · have h6 : b + 6 ≤ en := by have : 6 ≤ en - b := hwl; omega
     rw [lineR_3 h0 hk]; refine (quoted_nb h6).bind fun u i hu => ?_
     have hi := ((quotedR_in (s := s) (f := f) h6).okB hu).2; refine (must_nb _ i hi).bind fun _ j hm => ?_
     have hj := ((mustR_in (s := s) _ i hi).okB hm).2; exact (quoted_nb hj).bind fun v k _ => done_nb.bind fun _ _ _ => (id_nb h6).bind fun _ _ _ => (id_nb hj).bind fun _ _ _ => NB.ok _ _
   · have h5 : b + 5 ≤ en := by have : 5 ≤ en - b := hwl; omega
     rw [lineR_4 h0 hk]; exact (quoted_nb h5).bind fun u i _ => done_nb.bind fun _ _ _ => NB.ok _ _
   · have h7 : b + 7 ≤ en := by have : 7 ≤ en - b := hwl; omega
     rw [lineR_5 h0 hk]; exact (known_nb h7).bind fun _ _ _ => NB.ok _ _
   · have h6 : b + 6 ≤ en := by have : 6 ≤ en - b := hwl; omega
     rw [lineR_6 h0 hk]; exact (known_nb h6).bind fun _ _ _ => NB.ok _ _
theorem lines_nb : ∀ (f i : Nat) (st : CS), NB (linesR s f i st) s.length
 | 0, _, _ => fun e j h => by rw [linesR] at h; cases h
 | f + 1, i, st => by
   rw [linesR]
   by_cases hi : i < s.length
   · rw [if_pos hi]; have he := endL_le (Nat.le_of_lt hi); refine NB.bind ?_ fun st' _ _ => lines_nb f _ st'
     split
     · refine NB.bind ((must_nb _ 0 (Nat.zero_le _)).up he.2) fun _ j _ => (done_nb.up he.2).bind fun _ _ _ => NB.ok _ _
     · exact (line_nb he.1).up he.2
   · rw [if_neg hi]; exact NB.ok _ _
end
/-- which tree a line leaves -/
theorem line_re {s : List UInt8} {en f b j : Nat} {st st' : CS} (h : lineR s en f b st = .ok st' j) : (st'.c.re = st.c.re ∧ st'.split = st.split) ∨ ∃ u k, prsA u = .ok st'.c.re k := by
 by_cases h0 : b = en ∨ bt s b = 35
 · unfold lineR at h; rw [if_pos h0] at h; simp only [PR.ok.injEq] at h; rw [← h.1]; exact .inl ⟨rfl, rfl⟩
 cases hk : wordsC.findIdx? (fun w => w.isPrefixOf ((s.drop b).take (en - b))) with
 | none => rw [lineR_none h0 hk] at h; cases h
 | some k =>
   have hk7 : k < 7 := (List.findIdx?_eq_some_iff_getElem.1 hk).1
   rcases (by omega : k = 0 ∨ k = 1 ∨ k = 2 ∨ k = 3 ∨ k = 4 ∨ k = 5 ∨ k = 6) with rfl | rfl | rfl | rfl | rfl | rfl | rfl
   · rw [lineR_0 h0 hk] at h; obtain ⟨_, _, _, h⟩ := bindI h
     split at h
     · cases h
     · simp only [PR.ok.injEq] at h; obtain ⟨rfl, _⟩ := h; exact .inl ⟨rfl, rfl⟩
   · rw [lineR_1 h0 hk] at h; obtain ⟨u, _, _, h⟩ := bindI h; obtain ⟨_, _, _, h⟩ := bindI h; obtain ⟨v, _, _, h⟩ := bindI h; obtain ⟨_, _, _, h⟩ := bindI h
     split at h
     · cases h
     · simp only [PR.ok.injEq] at h; obtain ⟨rfl, _⟩ := h; exact .inl ⟨rfl, rfl⟩
   · rw [lineR_2 h0 hk] at h
     split at h
     · cases h
     · obtain ⟨t, i, ht, h⟩ := bindI h; simp only [PR.ok.injEq] at h; obtain ⟨rfl, _⟩ := h; unfold splitR at ht
       split at ht
       · rename_i t' j' hp
         by_cases hd : tooDeep t'
         · rw [if_pos hd] at ht; cases ht
         · rw [if_neg hd] at ht; simp only [PR.ok.injEq] at ht; obtain ⟨rfl, _⟩ := ht; exact .inr ⟨_, _, hp⟩
       · cases ht
       · cases ht
   · rw [lineR_3 h0 hk] at h; obtain ⟨u, _, _, h⟩ := bindI h; obtain ⟨_, _, _, h⟩ := bindI h; obtain ⟨v, _, _, h⟩ := bindI h; obtain ⟨_, _, _, h⟩ := bindI h; obtain ⟨l, _, _, h⟩ := bindI h; obtain ⟨r, _, _, h⟩ := bindI h; simp only [PR.ok.injEq] at h; obtain ⟨rfl, _⟩ := h; exact .inl ⟨rfl, rfl⟩
   · rw [lineR_4 h0 hk] at h; obtain ⟨u, _, _, h⟩ := bindI h; obtain ⟨_, _, _, h⟩ := bindI h; simp only [PR.ok.injEq] at h; obtain ⟨rfl, _⟩ := h; exact .inl ⟨rfl, rfl⟩
   · rw [lineR_5 h0 hk] at h; obtain ⟨u, _, _, h⟩ := bindI h; simp only [PR.ok.injEq] at h; obtain ⟨rfl, _⟩ := h; exact .inl ⟨rfl, rfl⟩
   · rw [lineR_6 h0 hk] at h; obtain ⟨u, _, _, h⟩ := bindI h; simp only [PR.ok.injEq] at h; obtain ⟨rfl, _⟩ := h; exact .inl ⟨rfl, rfl⟩
/-- a tree that was read -/
def ReQ (st : CS) : Prop := st.split = true → ∃ u k, prsA u = .ok st.c.re k
theorem lines_re {s : List UInt8} : ∀ (f i : Nat) (st st' : CS) (j : Nat), ReQ st → linesR s f i st = .ok st' j → ReQ st'
 | 0, _, _, _, _, _, h => by rw [linesR] at h; cases h
 | f + 1, i, st, st', j, hq, h => by
   rw [linesR] at h
   by_cases hi : i < s.length
   · rw [if_pos hi] at h; obtain ⟨st1, j1, h1, h2⟩ := bindI h; refine lines_re f _ st1 st' j ?_ h2
     split at h1
     · obtain ⟨_, _, _, h3⟩ := bindI h1; obtain ⟨_, _, _, h4⟩ := bindI h3; simp only [PR.ok.injEq] at h4; rw [← h4.1]; exact hq
     · rcases line_re h1 with ⟨e1, e2⟩ | h3
       · intro hsp; rw [e1]; exact hq (by rw [← e2]; exact hsp)
       · exact fun _ => h3
   · rw [if_neg hi] at h; simp only [PR.ok.injEq] at h; rw [← h.1]; exact hq
/-- what is read of any text -/
theorem parsC_any {s : List UInt8} {V : CV} {er at' : Int} {w : World} (hp : ParsC s V er at' w) : (er ≠ 0 ∧ V = cvZ ∧ 0 ≤ at' ∧ at' ≤ s.length) ∨ (er = 0 ∧ ∃ c : ConfP, CfAt w 30 V.r V.p V.m V.n V.b V.a c ∧ confE 30 c = 0 ∧ allW 30 c.re) := by
 unfold ParsC at hp
 by_cases hl : 65536 < s.length
 · rw [if_pos hl] at hp; obtain ⟨h1, h2, h3⟩ := hp; exact .inl ⟨by omega, h3, by omega, by omega⟩
 rw [if_neg hl] at hp
 cases hx : linesR s (s.length + 2) 0 stZ with
 | out => rw [hx] at hp; exact hp.elim
 | bad e j =>
   rw [hx] at hp; obtain ⟨h1, h2, h3⟩ := hp; obtain ⟨h4, h5⟩ := lines_nb _ _ _ e j hx; exact .inl ⟨by omega, h3, by omega, by omega⟩
 | ok st j =>
   rw [hx] at hp; dsimp only at hp
   by_cases h0 : s.length = 0
   · rw [if_pos h0] at hp; obtain ⟨h1, h2, h3⟩ := hp; exact .inl ⟨by omega, h3, by omega, by omega⟩
   rw [if_neg h0] at hp
   by_cases h1 : st.split = false
   · rw [if_pos h1] at hp; obtain ⟨h2, h3, h4⟩ := hp; exact .inl ⟨by omega, h4, by omega, by omega⟩
   rw [if_neg h1] at hp
   by_cases hz : confE 30 st.c ≠ 0
   · rw [if_pos hz] at hp; obtain ⟨h2, h3, h4⟩ := hp; exact .inl ⟨by rw [h2]; exact hz, h4, by omega, by omega⟩
   rw [if_neg hz] at hp; obtain ⟨h2, h3, h4⟩ := hp; have hsp : st.split = true := by
     cases e : st.split with
     | true => rfl
     | false => exact absurd e h1
   obtain ⟨u, k, hu⟩ := lines_re _ _ _ _ _ (fun h => by cases h) hx hsp
   exact .inr ⟨h2, st.c, h4, by
     by_cases e : confE 30 st.c = 0
     · exact e
     · exact absurd e hz, ((prsA_shp hu).shp h4.re).2⟩
open Go.RowKit Go.Lib
/-- the same, so far behind -/
def PR.sh {α : Type} (b : Nat) : PR α → PR α
 | .ok a i => .ok a (i + b)
 | .bad e i => .bad e (i + b)
 | .out => .out
theorem sh_bind {α β : Type} {b : Nat} (x : PR α) {f g : α → Nat → PR β} (h : ∀ a i, x = .ok a i → f a (i + b) = (g a i).sh b) : (x.sh b).bind f = (x.bind g).sh b := by
 cases x with
 | ok a i => exact h a i rfl
 | bad e i => rfl
 | out => rfl
theorem bind_same {α β : Type} {x : PR α} {f g : α → Nat → PR β} (h : ∀ a i, x = .ok a i → f a i = g a i) : x.bind f = x.bind g := by
 cases x with
 | ok a i => exact h a i rfl
 | bad e i => rfl
 | out => rfl
section
variable {s u : List UInt8} {b e : Nat} (hu : ∀ k, k < e → bt s (k + b) = bt u k)
include hu
theorem must_sh : ∀ (w : List UInt8) (i : Nat), mustR s (e + b) w (i + b) = (mustR u e w i).sh b
 | [], i => rfl
 | c :: w, i => by
   rw [mustR, mustR]
   by_cases hi : i < e
   · rw [hu i hi]
     by_cases hc : bt u i = c.toNat
     · rw [if_pos ⟨by omega, hc⟩, if_pos ⟨hi, hc⟩, show i + b + 1 = (i + 1) + b by omega]; exact must_sh w (i + 1)
     · rw [if_neg fun q => hc q.2, if_neg fun q => hc q.2]; rfl
   · rw [if_neg fun q => hi (by omega), if_neg fun q => hi q.1]; rfl
omit hu in
theorem done_sh {i : Nat} : doneR (e + b) (i + b) = (doneR e i).sh b := by
 unfold doneR
 by_cases hi : i < e
 · rw [if_pos (by omega), if_pos hi]; rfl
 · rw [if_neg (by omega), if_neg hi]; rfl
theorem next_sh {i : Nat} : nextR s (e + b) (i + b) = (nextR u e i).sh b := by
 unfold nextR
 by_cases hi : i < e
 · rw [if_pos (by omega), if_pos hi, hu i hi]; show PR.ok _ _ = PR.ok _ _; rw [show i + b + 1 = i + 1 + b by omega]
 · rw [if_neg (by omega), if_neg hi]; rfl
theorem hexq_sh {i : Nat} : hexQ s (e + b) (i + b) = (hexQ u e i).sh b := by
 unfold hexQ; rw [next_sh hu]; refine sh_bind _ fun c j _ => ?_
 cases hexV c <;> rfl
theorem bsl_sh {i : Nat} : bslR s (e + b) (i + b) = (bslR u e i).sh b := by
 unfold bslR; rw [next_sh hu]; refine sh_bind _ fun c j _ => ?_
 by_cases h1 : c = 34 ∨ c = 92
 · rw [if_pos h1, if_pos h1]; rfl
 rw [if_neg h1, if_neg h1]
 by_cases h2 : c = 110
 · rw [if_pos h2, if_pos h2]; rfl
 rw [if_neg h2, if_neg h2]
 by_cases h3 : c = 116
 · rw [if_pos h3, if_pos h3]; rfl
 rw [if_neg h3, if_neg h3]
 by_cases h4 : c = 114
 · rw [if_pos h4, if_pos h4]; rfl
 rw [if_neg h4, if_neg h4]
 by_cases h5 : c = 120
 · rw [if_pos h5, if_pos h5, hexq_sh hu]; refine sh_bind _ fun a k _ => ?_
   rw [hexq_sh hu]; exact sh_bind _ fun _ _ _ => rfl
 · rw [if_neg h5, if_neg h5]; rfl
theorem qt_sh : ∀ (f : Nat) (a : List UInt8) (i : Nat), qtR s (e + b) f a (i + b) = (qtR u e f a i).sh b
 | 0, _, _ => rfl
 | f + 1, a, i => by
   rw [qtR, qtR, next_sh hu]; refine sh_bind _ fun c j _ => ?_
   by_cases h1 : c = 34
   · rw [if_pos h1, if_pos h1]; rfl
   rw [if_neg h1, if_neg h1]
   by_cases h2 : c < 32 ∨ 126 < c
   · rw [if_pos h2, if_pos h2]; rfl
   rw [if_neg h2, if_neg h2]
   by_cases h3 : c ≠ 92
   · rw [if_pos h3, if_pos h3]; exact qt_sh f _ j
   · rw [if_neg h3, if_neg h3, bsl_sh hu]; exact sh_bind _ fun c k _ => qt_sh f _ k
theorem quoted_sh {f i : Nat} : quotedR s (e + b) f (i + b) = (quotedR u e f i).sh b := by
 unfold quotedR; rw [must_sh hu]; exact sh_bind _ fun _ j _ => qt_sh hu f [] j
theorem known_sh {f i : Nat} {ns : List (List UInt8)} : knownR s (e + b) f ns (i + b) = (knownR u e f ns i).sh b := by
 unfold knownR; rw [quoted_sh hu]; refine sh_bind _ fun n j _ => ?_
 rw [done_sh]; refine sh_bind _ fun _ k _ => ?_
 cases ns.findIdx? (· == n) <;> rfl
omit hu in
theorem id_sh {ids : List (List UInt8 × Int)} {t : List UInt8} {at' i : Nat} : idR ids t (at' + b) (i + b) = (idR ids t at' i).sh b := by
 unfold idR
 by_cases h : t.length = 1
 · rw [if_pos h, if_pos h]; rfl
 · rw [if_neg h, if_neg h]
   cases idOf ids t <;> rfl
omit hu in
theorem split_sh (hs : ∀ i, (s.drop (i + b)).take (e + b - (i + b)) = (u.drop i).take (e - i)) {i : Nat} : splitR s (e + b) (i + b) = (splitR u e i).sh b := by
 unfold splitR; rw [hs i]
 cases prsA ((u.drop i).take (e - i)) with
 | ok t j =>
   dsimp only
   by_cases hd : tooDeep t
   · rw [if_pos hd, if_pos hd]; rfl
   · rw [if_neg hd, if_neg hd]; rfl
 | bad e' j => show PR.bad e' (i + b + j) = PR.bad e' (i + j + b); rw [show i + b + j = i + j + b by omega]
 | out => rfl
end
/-- a line, wherever it stands -/
theorem line_sh {s : List UInt8} {b e f : Nat} {st : CS} (hb : b + e ≤ s.length) : lineR s (e + b) f b st = (lineR ((s.drop b).take e) e f 0 st).sh b := by
 have hul : ((s.drop b).take e).length = e := by rw [List.length_take, List.length_drop]; omega
 have hu : ∀ k, k < e → bt s (k + b) = bt ((s.drop b).take e) k := fun k hk => by
   unfold bt; rw [List.getD_eq_getElem?_getD, List.getD_eq_getElem?_getD, List.getElem?_take, if_pos hk, List.getElem?_drop, Nat.add_comm]
 have hs : ∀ i, (s.drop (i + b)).take (e + b - (i + b)) = (((s.drop b).take e).drop i).take (e - i) := fun i => by
   rw [List.drop_take, List.take_take, List.drop_drop, Nat.min_self, Nat.add_comm b i, show e + b - (i + b) = e - i by omega]
 have hw : (s.drop b).take (e + b - b) = (s.drop b).take e := by rw [Nat.add_sub_cancel]
 obtain ⟨u, hud⟩ : ∃ u, (s.drop b).take e = u := ⟨_, rfl⟩; rw [hud] at hul hu hs hw ⊢; have hw' : (u.drop 0).take (e - 0) = u := by rw [List.drop_zero, Nat.sub_zero, List.take_of_length_le (by omega)]
 have h0 : (b = e + b ∨ bt s b = 35) ↔ (0 = e ∨ bt u 0 = 35) := by
   by_cases he : e = 0
   · subst he; simp
   · have := hu 0 (by omega); rw [Nat.zero_add] at this; rw [this]
     constructor
     · rintro (q | q)
       · omega
       · exact .inr q
     · rintro (q | q)
       · omega
       · exact .inr q
 by_cases hx : b = e + b ∨ bt s b = 35
 · unfold lineR; rw [if_pos hx, if_pos (h0.1 hx)]; show PR.ok st b = PR.ok st (0 + b); rw [Nat.zero_add]
 have hy : ¬ (0 = e ∨ bt u 0 = 35) := fun q => hx (h0.2 q)
 cases hk : wordsC.findIdx? (fun w => w.isPrefixOf u) with
 | none =>
   rw [lineR_none hx (by rw [hw]; exact hk), lineR_none hy (by rw [hw']; exact hk), hw, hw']; show PR.bad _ _ = PR.bad _ _; rw [Nat.zero_add, Nat.add_comm]
 | some k =>
   have hk1 : wordsC.findIdx? (fun w => w.isPrefixOf ((s.drop b).take (e + b - b))) = some k := by rw [hw]; exact hk
   have hk2 : wordsC.findIdx? (fun w => w.isPrefixOf ((u.drop 0).take (e - 0))) = some k := by rw [hw']; exact hk
   have hk7 : k < 7 := (List.findIdx?_eq_some_iff_getElem.1 hk).1
   rcases (by omega : k = 0 ∨ k = 1 ∨ k = 2 ∨ k = 3 ∨ k = 4 ∨ k = 5 ∨ k = 6) with rfl | rfl | rfl | rfl | rfl | rfl | rfl
   · rw [lineR_0 hx hk1, lineR_0 hy hk2, show b + 4 = 0 + 4 + b by omega, done_sh]; refine sh_bind _ fun _ j _ => ?_
     by_cases h4 : 4 ≤ st.c.ps.length
     · rw [if_pos h4, if_pos h4]; show PR.bad 172 b = PR.bad 172 (0 + b); rw [Nat.zero_add]
     · rw [if_neg h4, if_neg h4]; rfl
   · rw [lineR_1 hx hk1, lineR_1 hy hk2, show b + 5 = 0 + 5 + b by omega, quoted_sh hu]; refine sh_bind _ fun w i _ => ?_
     rw [must_sh hu]; refine sh_bind _ fun _ j _ => ?_
     rw [quoted_sh hu]; refine sh_bind _ fun v k _ => ?_
     rw [done_sh]; refine sh_bind _ fun _ m _ => ?_
     by_cases h4 : st.c.ps.length = 0
     · rw [if_pos h4, if_pos h4]; show PR.bad 172 b = PR.bad 172 (0 + b); rw [Nat.zero_add]
     · rw [if_neg h4, if_neg h4]; rfl
   · rw [lineR_2 hx hk1, lineR_2 hy hk2, show b + 6 = 0 + 6 + b by omega]
     by_cases h4 : st.split = true
     · rw [if_pos h4, if_pos h4]; show PR.bad 172 b = PR.bad 172 (0 + b); rw [Nat.zero_add]
     · rw [if_neg h4, if_neg h4, split_sh hs]; exact sh_bind _ fun _ _ _ => rfl
   · rw [lineR_3 hx hk1, lineR_3 hy hk2, show b + 6 = 0 + 6 + b by omega, quoted_sh hu]; refine sh_bind _ fun w i _ => ?_
     rw [must_sh hu]; refine sh_bind _ fun _ j _ => ?_
     rw [quoted_sh hu]; refine sh_bind _ fun v k _ => ?_
     rw [done_sh]; refine sh_bind _ fun _ m _ => ?_
     rw [id_sh]; refine sh_bind _ fun _ _ _ => ?_
     rw [id_sh]; exact sh_bind _ fun _ _ _ => rfl
   · rw [lineR_4 hx hk1, lineR_4 hy hk2, show b + 5 = 0 + 5 + b by omega, quoted_sh hu]; refine sh_bind _ fun w i _ => ?_
     rw [done_sh]; exact sh_bind _ fun _ _ _ => rfl
   · rw [lineR_5 hx hk1, lineR_5 hy hk2, show b + 7 = 0 + 7 + b by omega, known_sh hu]; exact sh_bind _ fun _ _ _ => rfl
   · rw [lineR_6 hx hk1, lineR_6 hy hk2, show b + 6 = 0 + 6 + b by omega, known_sh hu]; exact sh_bind _ fun _ _ _ => rfl
open Go.RowKit Go.Lib
section
variable {s : List UInt8} {en : Nat}
/-- fuel enough is fuel enough -/
theorem qt_fu : ∀ (f f' : Nat) (a : List UInt8) (i : Nat), i ≤ en → en - i < f → en - i < f' → qtR s en f a i = qtR s en f' a i
 | 0, _, _, _, _, h, _ => by omega
 | _ + 1, 0, _, _, _, _, h => by omega
 | f + 1, f' + 1, a, i, hi, h1, h2 => by
   rw [qtR, qtR]
   by_cases he : i < en
   · refine bind_same fun c j hc => ?_
     have hj := (nextR_in (s := s) hi).okB hc
     by_cases c1 : c = 34
     · rw [if_pos c1, if_pos c1]
     rw [if_neg c1, if_neg c1]
     by_cases c2 : c < 32 ∨ 126 < c
     · rw [if_pos c2, if_pos c2]
     rw [if_neg c2, if_neg c2]
     by_cases c3 : c ≠ 92
     · rw [if_pos c3, if_pos c3]; exact qt_fu f f' _ j hj.2 (by omega) (by omega)
     · rw [if_neg c3, if_neg c3]; refine bind_same fun c k hk => ?_
       have hk2 := (bslR_in (s := s) hj.2).okB hk; exact qt_fu f f' _ k hk2.2 (by omega) (by omega)
   · unfold nextR; rw [if_neg he]; rfl
theorem quoted_fu {f f' i : Nat} (hi : i ≤ en) (h1 : en < f) (h2 : en < f') : quotedR s en f i = quotedR s en f' i := by
 unfold quotedR; refine bind_same fun _ j hj => ?_
 have := ((mustR_in (s := s) [34] i hi).okB hj).2; exact qt_fu f f' [] j this (by omega) (by omega)
theorem known_fu {f f' i : Nat} {ns : List (List UInt8)} (hi : i ≤ en) (h1 : en < f) (h2 : en < f') : knownR s en f ns i = knownR s en f' ns i := by
 unfold knownR; rw [quoted_fu hi h1 h2]
theorem line_fu {f f' b : Nat} {st : CS} (h1 : en < f) (h2 : en < f') : lineR s en f b st = lineR s en f' b st := by
 by_cases h0 : b = en ∨ bt s b = 35
 · unfold lineR; rw [if_pos h0, if_pos h0]
 cases hk : wordsC.findIdx? (fun w => w.isPrefixOf ((s.drop b).take (en - b))) with
 | none => rw [lineR_none h0 hk, lineR_none h0 hk]
 | some k =>
   obtain ⟨hk7, hpre, _⟩ := List.findIdx?_eq_some_iff_getElem.1 hk; have hwl : (wordsC[k]).length ≤ en - b := Nat.le_trans (List.isPrefixOf_iff_prefix.1 hpre).length_le (List.length_take_le _ _); have hk7' : k < 7 := hk7
   rcases (by omega : k = 0 ∨ k = 1 ∨ k = 2 ∨ k = 3 ∨ k = 4 ∨ k = 5 ∨ k = 6) with rfl | rfl | rfl | rfl | rfl | rfl | rfl
   · rw [lineR_0 h0 hk, lineR_0 h0 hk]
   · have h5 : b + 5 ≤ en := by have : 5 ≤ en - b := hwl; omega
     rw [lineR_1 h0 hk, lineR_1 h0 hk, quoted_fu h5 h1 h2]; refine bind_same fun u i hu => bind_same fun _ j hm => ?_
     have hi := ((quotedR_in (s := s) (f := f') h5).okB hu).2; rw [quoted_fu ((mustR_in (s := s) _ i hi).okB hm).2 h1 h2]
   · rw [lineR_2 h0 hk, lineR_2 h0 hk]
   · have h6 : b + 6 ≤ en := by have : 6 ≤ en - b := hwl; omega
     rw [lineR_3 h0 hk, lineR_3 h0 hk, quoted_fu h6 h1 h2]; refine bind_same fun u i hu => bind_same fun _ j hm => ?_
     have hi := ((quotedR_in (s := s) (f := f') h6).okB hu).2; rw [quoted_fu ((mustR_in (s := s) _ i hi).okB hm).2 h1 h2]
   · have h5 : b + 5 ≤ en := by have : 5 ≤ en - b := hwl; omega
     rw [lineR_4 h0 hk, lineR_4 h0 hk, quoted_fu h5 h1 h2]
   · have h7 : b + 7 ≤ en := by have : 7 ≤ en - b := hwl; omega
     rw [lineR_5 h0 hk, lineR_5 h0 hk, known_fu h7 h1 h2]
   · have h6 : b + 6 ≤ en := by have : 6 ≤ en - b := hwl; omega
     rw [lineR_6 h0 hk, lineR_6 h0 hk, known_fu h6 h1 h2]
end
/-- without the place -/
def PR.np {α : Type} : PR α → PR α
 | .ok a _ => .ok a 0
 | .bad e _ => .bad e 0
 | .out => .out
theorem np_sh {α : Type} (x : PR α) (b : Nat) : (x.sh b).np = x.np := by cases x <;> rfl
theorem np_bind {α β : Type} {x y : PR α} {f g : α → Nat → PR β} (h : x.np = y.np) (hf : ∀ a i j, (f a i).np = (g a j).np) : (x.bind f).np = (y.bind g).np := by
 cases x with
 | ok a i =>
   cases y with
   | ok a' j => simp only [PR.np, PR.ok.injEq] at h; obtain ⟨rfl, _⟩ := h; exact hf a i j
   | bad e j => simp [PR.np] at h
   | out => simp [PR.np] at h
 | bad e i =>
   cases y with
   | ok a' j => simp [PR.np] at h
   | bad e' j => simp only [PR.np, PR.bad.injEq] at h; obtain ⟨rfl, _⟩ := h; rfl
   | out => simp [PR.np] at h
 | out =>
   cases y with
   | ok a' j => simp [PR.np] at h
   | bad e' j => simp [PR.np] at h
   | out => rfl
/-- lines, each alone -/
noncomputable def linesC : List (List UInt8) → CS → PR CS
 | [], st => .ok st 0
 | l :: ls, st => (lineR l l.length (l.length + 1) 0 st).bind fun st' _ => linesC ls st'
/-- each line with its end ahead -/
def txt1 (ls : List (List UInt8)) : List UInt8 := ls.flatMap fun l => 10 :: l
def noLf (l : List UInt8) : Prop := ∀ x ∈ l, x ≠ 10
theorem tw_line {l : List UInt8} (hl : noLf l) (ls : List (List UInt8)) : (l ++ txt1 ls).takeWhile (· != 10) = l := by
 induction l with
 | nil =>
   cases ls with
   | nil => rfl
   | cons m ms => rfl
 | cons c l ih =>
   have h1 : (c != 10) = true := bne_iff_ne.2 (hl c (by simp)); rw [List.cons_append, List.takeWhile_cons, h1, if_pos rfl, ih fun x hx => hl x (by simp [hx])]
theorem endL_line {s : List UInt8} {i : Nat} {l : List UInt8} {ls : List (List UInt8)} (hs : s.drop i = l ++ txt1 ls) (hl : noLf l) : endL s i = i + l.length := by
 unfold endL; rw [hs, tw_line hl]
theorem lineC_nil (st : CS) : lineR [] 0 1 0 st = .ok st 0 := by unfold lineR; rw [if_pos (.inl rfl)]
theorem lineC_note (r : List UInt8) (st : CS) : lineR (35 :: r) (r.length + 1) (r.length + 1 + 1) 0 st = .ok st 0 := by
 unfold lineR; rw [if_pos (.inr rfl)]
/-- the lines behind the first one are read each alone -/
theorem lines_alone {s : List UInt8} : ∀ (ls : List (List UInt8)) (l : List UInt8) (f i : Nat) (st : CS), s.drop i = l ++ txt1 ls → noLf l → (∀ m ∈ ls, noLf m) → i ≠ 0 → i ≤ s.length → s.length + 2 ≤ f + i → (linesR s f i st).np = (linesC (l :: ls) st).np
 | ls, l, f, i, st, hs, hl, hls, h0, hi, hf => by
   obtain ⟨f, rfl⟩ : ∃ g, f = g + 1 := ⟨f - 1, by omega⟩; have hlen : s.length - i = l.length + (txt1 ls).length := by
     have := congrArg List.length hs; rw [List.length_drop, List.length_append] at this; exact this
   by_cases hlt : i < s.length
   · rw [lines_more hlt h0, endL_line hs hl, linesC]; have hsh := line_sh (s := s) (b := i) (e := l.length) (f := s.length + 1) (st := st) (by omega); rw [show (s.drop i).take l.length = l by rw [hs, List.take_left]] at hsh; refine np_bind ?_ fun st' _ _ => ?_
     · rw [Nat.add_comm i, hsh, np_sh, line_fu (f' := l.length + 1) (by omega) (by omega)]
     · cases ls with
       | nil =>
         have hz : (txt1 []).length = 0 := rfl; obtain ⟨g, rfl⟩ : ∃ g, f = g + 1 := ⟨f - 1, by omega⟩; rw [lines_stop (by omega)]; rfl
       | cons m ms =>
         have ht : txt1 (m :: ms) = 10 :: (m ++ txt1 ms) := by unfold txt1; simp
         have hd : s.drop (i + l.length + 1) = m ++ txt1 ms := by
           rw [Nat.add_assoc, ← List.drop_drop, hs, ht, ← List.drop_drop, List.drop_left]; rfl
         have hlen2 : (txt1 (m :: ms)).length = 1 + (m ++ txt1 ms).length := by rw [ht, List.length_cons]; omega
         exact lines_alone ms m f (i + l.length + 1) st' hd (hls m (by simp)) (fun x hx => hls x (by simp [hx])) (by omega) (by omega) (by omega)
   · rw [lines_stop hlt]; have hz : l.length + (txt1 ls).length = 0 := by omega
     have hl0 : l = [] := List.eq_nil_of_length_eq_zero (by omega)
     cases ls with
     | nil =>
       rw [hl0, linesC]; show (PR.ok st i).np = ((lineR [] 0 1 0 st).bind fun st' _ => linesC [] st').np; rw [lineC_nil]; rfl
     | cons m ms =>
       have ht : txt1 (m :: ms) = 10 :: (m ++ txt1 ms) := by unfold txt1; simp
       rw [ht, List.length_cons] at hz; omega
 termination_by ls => ls.length
/-- lines that say nothing -/
def Mute (l : List UInt8) : Prop := l = [] ∨ ∃ r, l = 35 :: r
theorem mute_line {l : List UInt8} (h : Mute l) (ls : List (List UInt8)) (st : CS) : linesC (l :: ls) st = linesC ls st := by
 rw [linesC]
 rcases h with rfl | ⟨r, rfl⟩
 · show ((lineR [] 0 1 0 st).bind fun st' _ => linesC ls st') = _; rw [lineC_nil]; rfl
 · rw [List.length_cons, lineC_note]; rfl
theorem mute_all : ∀ {ms : List (List UInt8)} (_ : ∀ m ∈ ms, Mute m) (ls : List (List UInt8)) (st : CS), linesC (ms ++ ls) st = linesC ls st
 | [], _, _, _ => rfl
 | m :: ms, h, ls, st => by
   rw [List.cons_append, mute_line (h m (by simp)), mute_all (fun x hx => h x (by simp [hx]))]
/-- lines, with others that say nothing ahead of each -/
inductive Laid : List (List UInt8) → List (List UInt8) → Prop where
 | nil : Laid [] []
 | cons {ls ls' ms : List (List UInt8)} (l : List UInt8) (hm : ∀ m ∈ ms, Mute m ∧ noLf m) (h : Laid ls ls') : Laid (l :: ls) (ms ++ l :: ls')
theorem laid_same {ls ls' : List (List UInt8)} (h : Laid ls ls') : ∀ st, linesC ls' st = linesC ls st := by
 induction h with
 | nil => intro st; rfl
 | cons l hm h ih =>
   intro st; rw [mute_all fun m hx => (hm m hx).1, linesC, linesC]; exact bind_same fun st' _ _ => ih st'
theorem laid_no {ls ls' : List (List UInt8)} (h : Laid ls ls') (hl : ∀ m ∈ ls, noLf m) : ∀ m ∈ ls', noLf m := by
 induction h with
 | nil => exact hl
 | cons l hm h ih =>
   intro m hx
   rcases List.mem_append.1 hx with hx | hx
   · exact (hm m hx).2
   · rcases List.mem_cons.1 hx with rfl | hx
     · exact hl _ (by simp)
     · exact ih (fun y hy => hl y (by simp [hy])) m hx
/-- a text: its first line, and the others -/
theorem lines_whole {l : List UInt8} {ls : List (List UInt8)} (hl : noLf l) (hls : ∀ m ∈ ls, noLf m) (st : CS) (h0 : 0 < (l ++ txt1 ls).length) :
   (linesR (l ++ txt1 ls) ((l ++ txt1 ls).length + 2) 0 st).np = ((((mustR l l.length [102, 114, 101, 116, 115, 97, 119, 32, 49] 0).bind fun _ j => doneR l.length j)).bind fun _ _ => linesC ls st).np := by
 obtain ⟨s, hs⟩ : ∃ s, l ++ txt1 ls = s := ⟨_, rfl⟩; have hend : endL s 0 = l.length := by
   have := endL_line (s := s) (i := 0) (l := l) (ls := ls) (by rw [List.drop_zero, hs]) hl; rw [Nat.zero_add] at this; exact this
 have hu : ∀ k, k < l.length → bt s (k + 0) = bt l k := fun k hk => by
   unfold bt; rw [Nat.add_zero, ← hs, List.getD_eq_getElem?_getD, List.getD_eq_getElem?_getD, List.getElem?_append_left hk]
 rw [hs] at h0 ⊢; rw [show s.length + 2 = (s.length + 1) + 1 from rfl, lines_zero h0, hend]; unfold fstR; rw [hend]; have hm := must_sh hu [102, 114, 101, 116, 115, 97, 119, 32, 49] 0; rw [Nat.add_zero, Nat.zero_add] at hm; rw [hm]
 cases hM : mustR l l.length [102, 114, 101, 116, 115, 97, 119, 32, 49] 0 with
 | bad e j => rfl
 | out => rfl
 | ok u j =>
   show ((((PR.ok u (j + 0)).bind fun _ j => (doneR l.length j).bind fun _ k => PR.ok () k)).bind fun _ _ => linesR s (s.length + 1) (l.length + 1) st).np = (((PR.ok u j).bind fun _ j => doneR l.length j).bind fun _ _ => linesC ls st).np; rw [bindOk, bindOk, Nat.add_zero]
   cases hD : doneR l.length j with
   | bad e k => rfl
   | out => rfl
   | ok v k =>
     rw [bindOk, bindOk, bindOk]; have hlen : s.length = l.length + (txt1 ls).length := by rw [← hs, List.length_append]
     cases ls with
     | nil =>
       have hz : (txt1 []).length = 0 := rfl; rw [lines_stop (by omega)]; rfl
     | cons m ms =>
       have ht : txt1 (m :: ms) = 10 :: (m ++ txt1 ms) := by unfold txt1; simp
       have hd : s.drop (l.length + 1) = m ++ txt1 ms := by
         rw [← List.drop_drop, ← hs, ht, List.drop_left]; rfl
       have hlen2 : (txt1 (m :: ms)).length = 1 + (m ++ txt1 ms).length := by rw [ht, List.length_cons]; omega
       exact lines_alone ms m _ _ st hd (hls m (by simp)) (fun x hx => hls x (by simp [hx])) (by omega) (by omega) (by omega)
/-- what is laid between says nothing -/
theorem laid_lines {l : List UInt8} {ls ls' : List (List UInt8)} (hl : noLf l) (hls : ∀ m ∈ ls, noLf m) (h : Laid ls ls') : (linesR (l ++ txt1 ls) ((l ++ txt1 ls).length + 2) 0 stZ).np = (linesR (l ++ txt1 ls') ((l ++ txt1 ls').length + 2) 0 stZ).np ∧ ((l ++ txt1 ls).length = 0 ↔ (l ++ txt1 ls').length = 0) := by
 have hiff : (l ++ txt1 ls).length = 0 ↔ (l ++ txt1 ls').length = 0 := by
   cases h with
   | nil => exact Iff.rfl
   | @cons ls1 ls1' ms m hm h =>
     have h1 : (txt1 (m :: ls1)).length ≠ 0 := by unfold txt1; simp
     have h2 : (txt1 (ms ++ m :: ls1')).length ≠ 0 := by unfold txt1; simp
     rw [List.length_append, List.length_append]
     constructor <;> (intro; omega)
 refine ⟨?_, hiff⟩
 by_cases h0 : (l ++ txt1 ls).length = 0
 · have h1 := hiff.1 h0; rw [List.eq_nil_of_length_eq_zero h0, List.eq_nil_of_length_eq_zero h1]
 · have h1 : (l ++ txt1 ls').length ≠ 0 := fun q => h0 (hiff.2 q)
   rw [lines_whole hl hls stZ (by omega), lines_whole hl (laid_no h hls) stZ (by omega)]; exact np_bind rfl fun _ _ _ => by rw [laid_same h]
/-- two texts that are read alike -/
theorem parsC_alike {s t : List UInt8} {V V' : CV} {er er' at1 at2 : Int} {w w' : World} (hs : s.length ≤ 65536) (ht : t.length ≤ 65536) (hn : (linesR s (s.length + 2) 0 stZ).np = (linesR t (t.length + 2) 0 stZ).np) (h0 : s.length = 0 ↔ t.length = 0) (hp : ParsC s V er at1 w) (hp' : ParsC t V' er' at2 w') :
   er = er' ∧ ((V = cvZ ∧ V' = cvZ) ∨ ∃ c : ConfP, CfAt w 30 V.r V.p V.m V.n V.b V.a c ∧ CfAt w' 30 V'.r V'.p V'.m V'.n V'.b V'.a c) := by
 unfold ParsC at hp hp'; rw [if_neg (by omega)] at hp hp'
 cases hx : linesR s (s.length + 2) 0 stZ with
 | out => rw [hx] at hp; exact hp.elim
 | bad e j =>
   cases hy : linesR t (t.length + 2) 0 stZ with
   | out => rw [hy] at hp'; exact hp'.elim
   | bad e' j' =>
     rw [hx, hy] at hn; simp only [PR.np, PR.bad.injEq] at hn; rw [hx] at hp; rw [hy] at hp'; exact ⟨by rw [hp.1, hp'.1, hn.1], .inl ⟨hp.2.2, hp'.2.2⟩⟩
   | ok st j' => rw [hx, hy] at hn; simp [PR.np] at hn
 | ok st j =>
   cases hy : linesR t (t.length + 2) 0 stZ with
   | out => rw [hy] at hp'; exact hp'.elim
   | bad e' j' => rw [hx, hy] at hn; simp [PR.np] at hn
   | ok st' j' =>
     rw [hx, hy] at hn; simp only [PR.np, PR.ok.injEq] at hn; obtain ⟨rfl, _⟩ := hn; rw [hx] at hp; rw [hy] at hp'; dsimp only at hp hp'
     by_cases hz : s.length = 0
     · rw [if_pos hz] at hp; rw [if_pos (h0.1 hz)] at hp'; exact ⟨by rw [hp.1, hp'.1], .inl ⟨hp.2.2, hp'.2.2⟩⟩
     rw [if_neg hz] at hp; rw [if_neg fun q => hz (h0.2 q)] at hp'
     by_cases hsp : st.split = false
     · rw [if_pos hsp] at hp hp'; exact ⟨by rw [hp.1, hp'.1], .inl ⟨hp.2.2, hp'.2.2⟩⟩
     rw [if_neg hsp] at hp hp'
     by_cases hc : confE 30 st.c ≠ 0
     · rw [if_pos hc] at hp hp'; exact ⟨by rw [hp.1, hp'.1], .inl ⟨hp.2.2, hp'.2.2⟩⟩
     rw [if_neg hc] at hp hp'; exact ⟨by rw [hp.1, hp'.1], .inr ⟨st.c, hp.2.2, hp'.2.2⟩⟩
end Go.Proofs.YtonkenlkigfeoaaDoor
