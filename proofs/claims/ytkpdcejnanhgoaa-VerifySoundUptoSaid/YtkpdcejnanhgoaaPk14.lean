/- Walk: ranges come to a place (flow). Conditions: the checker lies in memory; few places are to be looked at. -/
import Derived.Test.YtkpdcejnanhgoaaPk12
import Derived.Test.YtkpdcejnanhgoaaPk03
import Derived.Test.YtkpdcejnanhgoaaPk10
namespace Go.Proofs.Ytkpdcejnanhgoaa
open Go.RowKit
/-- what flow turns: nothing below B, and only blocks of three types -/
structure FlowFr (B : Nat) (w w' : World) : Prop where
  bel : Below B w w'
  keep : ∀ (k : Nat) cs t fz, w.heap[k]? = some (.cells cs t fz) → t ≠ 3 → t ≠ 72 → t ≠ 82 → w'.heap[k]? = some (.cells cs t fz)
theorem FlowFr.refl (B : Nat) (w : World) : FlowFr B w w := ⟨Below.refl _ _, fun _ _ _ _ h _ _ _ => h⟩
theorem FlowFr.trans {B : Nat} {w w' w'' : World} (h : FlowFr B w w') (h' : FlowFr B w' w'') : FlowFr B w w'' := ⟨h.bel.trans h'.bel, fun k cs t fz a b c d => h'.keep k cs t fz (h.keep k cs t fz a b c d) b c d⟩
theorem FlowFr.of_below {B : Nat} {w w' : World} (h : Below w.heap.size w w') (hB : B ≤ w.heap.size) : FlowFr B w w' := ⟨h.mono hB, fun k cs t fz hk _ _ _ => by rw [h.block k (Array.getElem?_eq_some_iff.1 hk).1]; exact hk⟩
theorem FlowFr.set {B : Nat} {w w' : World} (h : FlowFr B w w') {g : Nat} {cs : Array Value} {t : TypeId} {fz : Nat × Nat} (hg : w'.heap[g]? = some (.cells cs t fz)) (hB : B ≤ g) (ht : t = 3 ∨ t = 72 ∨ t = 82) (o : Nat) (x : Value) : FlowFr B w (w'.setCell ⟨g, o, none⟩ x) := by
  refine ⟨h.bel.setCell (by exact hB) _, fun k cs' t' fz' hk a b c => ?_⟩
  have := h.keep k cs' t' fz' hk a b c
  rw [heap_setCell_other _ _ _ _ (by
    dsimp only
    intro e
    subst e
    rw [hg] at this
    simp at this
    obtain ⟨_, e, _⟩ := this
    rcases ht with ht | ht | ht <;> rw [ht] at e
    · exact a e.symm
    · exact b e.symm
    · exact c e.symm)]
  exact this
theorem FlowFr.sets {B : Nat} {w w' : World} (h : FlowFr B w w') {g : Nat} {cs : Array Value} {fz : Nat × Nat} (hg : w'.heap[g]? = some (.cells cs 82 fz)) (hB : B ≤ g) (o : Nat) (xs : List Value) : FlowFr B w (w'.setCells g o xs) := by
  refine ⟨Below.setCells xs o h.bel hB, fun k cs' t' fz' hk a b c => ?_⟩
  have := h.keep k cs' t' fz' hk a b c
  rw [heap_setCells_other g xs o _ k (by
    intro e
    subst e
    rw [hg] at this
    simp at this
    exact c this.2.1.symm)]
  exact this
theorem OwnR.form4 {α : Type} {f : α → List Value} {sz B : Nat} {e : TypeId} {w : World} {v : Value} {l : List α} (h : OwnR f sz B e w v l) : ∃ a n cap, v = .slice a n cap := by
  obtain ⟨a, c, e, _⟩ := h.form
  exact ⟨a, _, c, e⟩
theorem intC_one (n : Int) : ∀ u ∈ intC n, u.oneCell' = true := fun u hu => by simp [intC] at hu; subst hu; rfl
theorem info_int : (Try.prog.info? 3).map (fun i => (i.zero, i.size, i.bytes)) = some (some (.int .i64 0), 1, 8) := by kernel_rfl
theorem quiet_load_rg {w0 : World} {o : Oper} {a : Act} {g : Nat} {r : Rg} {K : Act → Prop} (hs : ∀ nq : WB w0, RgBox nq.1 g r) (h8 : r.length = 8) (x : Operand) (ho : o.op = .load 79 x) (hx : a.eval x = .pointer (some ⟨g, 0, none⟩)) (h : K (a.put o.dst (rgV r))) :
    o.quiet Try.prog a (fun w' => ∃ n : WB w0, w' = n.1) K := by
  refine ⟨rgV r, fun w ⟨nq, e⟩ => ?_, h⟩
  subst e
  have r1 := run_loadVar_row (P := Try.prog) nq.1 g 79 79 (rgC r).toArray (0, 0) _ (hs nq) Try.underlying79 rfl (by rw [info_vrg]; simp [rgC_len h8])
  unfold Oper.quietAt execOp
  simp only [ho, hx, Instr.loadAt, Instr.sureAddr, Sem.run_bind, Sem.run_pure, Result.andThen_ok, r1, Oper.quietUpon, and_self]
theorem quiet_load_mid {w0 : World} {o : Oper} {a : Act} {b k : Nat} {r : Rg} {K : Act → Prop} (hs : ∀ nq : WB w0, nq.1.rangeAt b k (rgC r)) (h8 : r.length = 8) (x : Operand) (ho : o.op = .load 79 x) (hx : a.eval x = .pointer (some ⟨b, k, none⟩)) (h : K (a.put o.dst (rgV r))) :
    o.quiet Try.prog a (fun w' => ∃ n : WB w0, w' = n.1) K := by
  refine ⟨rgV r, fun w ⟨nq, e⟩ => ?_, h⟩
  subst e
  have r1 := run_loadVar_mid (P := Try.prog) nq.1 b k 79 (rgC r) _ (hs nq) Try.underlying79 rfl (by rw [info_vrg, rgC_len h8])
  unfold Oper.quietAt execOp
  simp only [ho, hx, Instr.loadAt, Instr.sureAddr, Sem.run_bind, Sem.run_pure, Result.andThen_ok, r1, Oper.quietUpon, and_self]
theorem load_mid {o : Oper} {a : Act} {w : World} {K : Act → World → Prop} {Q : Exit → Act → World → Prop} {b k : Nat} {r : Rg} (hs : w.rangeAt b k (rgC r)) (h8 : r.length = 8) (x : Operand) (ho : o.op = .load 79 x)
    (hx : a.eval x = .pointer (some ⟨b, k, none⟩)) (h : K (a.put o.dst (rgV r)) w) : o.wp Try.prog a w K Q :=
  wp_load_mid 79 x ho b k hx (rgC r) _ hs Try.underlying79 rfl (by rw [info_vrg, rgC_len h8]) h
theorem store_rg {o : Oper} {a : Act} {w : World} {K : Act → World → Prop} {Q : Exit → Act → World → Prop} {b k : Nat} {r : Rg} (ht : w.there b k 16) (h8 : r.length = 8) (x y : Operand) (ho : o.op = .store 79 x y)
    (hx : a.eval x = .pointer (some ⟨b, k, none⟩)) (hy : a.eval y = rgV r) (h : K (a.put o.dst undef) (w.setCells b k (rgC r))) : o.wp Try.prog a w K Q := by
  have hl := rgC_len h8
  exact wp_store_mid 79 x y ho b k (rgC r).toArray hx hy (by simpa [hl] using ht) (by rw [info_vrg]; simp [hl]) (all_oneCell_toArray (rgC_one r)) (by simpa using h)
theorem alloc_setRow (w : World) (old cs : Array Value) (t : TypeId) (fr : Nat × Nat) : (w.alloc (.cells old t fr)).setRow w.heap.size cs = w.alloc (.cells cs t fr) := by
  unfold World.setRow World.alloc
  congr 1
  apply Array.ext_getElem?
  intro i
  rw [Array.getElem?_modify]
  by_cases h : w.heap.size = i
  · subst h; simp
  · rw [if_neg h, Array.getElem?_push, Array.getElem?_push, if_neg (by omega), if_neg (by omega)]
theorem CK.blkB {B g b : Nat} {p : Prg} {v : PV} {of : Rg} {vo vt : Value} {S : Sts} {td : List Nat} {w : World} (h : CK B g b p v of vo S td vt w) : ∃ cs, w.heap[b]? = some (.cells cs 82 (0, 0)) := by
  obtain ⟨cs, h1, _⟩ := h.sts.blk
  exact ⟨cs, h1⟩
/-- a place reached for the first time -/
theorem CK.reach {B g b : Nat} {p : Prg} {v : PV} {of : Rg} {vo vt : Value} {S : Sts} {td : List Nat} {w : World} (h : CK B g b p v of vo S td vt w) {k : Nat} (hk : k < S.length) (hz : S.getD k none = none) {r : Rg} (h8 : r.length = 8) :
    CK B g b p v of vo (S.set k (some r)) td vt ((w.setCell ⟨b, k * 17, none⟩ (.bool true)).setCells b (k * 17 + 1) (rgC r)) :=
  h.turn (h.sts.reach hk hz h8) (by simp) fun j hj => by rw [heap_setCells_other _ _ _ _ _ hj, heap_setCell_other _ _ _ _ (by exact hj)]
theorem FlowFr.reach {B g b : Nat} {p : Prg} {v : PV} {of : Rg} {vo vt : Value} {S : Sts} {td : List Nat} {w0 w : World} (f : FlowFr B w0 w) (h : CK B g b p v of vo S td vt w) (o o' : Nat) (x : Value) (xs : List Value) : FlowFr B w0 ((w.setCell ⟨b, o, none⟩ x).setCells b o' xs) := by
  obtain ⟨cs, h1⟩ := h.blkB
  have h2 : (w.setCell ⟨b, o, none⟩ x).heap[b]? = some (.cells (cs.setIfInBounds o x) 82 (0, 0)) := by rw [setCell_eq_setRow w b o _ _ _ _ h1, setRow_heap _ _ _ _ _ _ h1]
  exact (f.set h1 h.bel.2 (.inr (.inr rfl)) o x).sets h2 h.bel.2 o' xs
/-- a place known already: its ranges turn -/
theorem CK.turnAt {B g b : Nat} {p : Prg} {v : PV} {of : Rg} {vo vt : Value} {S : Sts} {td : List Nat} {w : World} (h : CK B g b p v of vo S td vt w) {k : Nat} (hk : k < S.length) (hs : (S.getD k none).isSome = true) {r : Rg} (h8 : r.length = 8) :
    CK B g b p v of vo (S.set k (some r)) td vt (w.setCells b (k * 17 + 1) (rgC r)) :=
  h.turn (h.sts.regsPut hk hs h8) (by simp) fun j hj => by rw [heap_setCells_other _ _ _ _ _ hj]
theorem FlowFr.push {B g b : Nat} {p : Prg} {v : PV} {of : Rg} {vo vt : Value} {S : Sts} {td : List Nat} {w0 w w1 : World} (f : FlowFr B w0 w) (h : CK B g b p v of vo S td vt w) (hb : Below B w w1) (hk : KeepB 3 w w1) (x : Value) : FlowFr B w0 (w1.setCell ⟨g, 11, none⟩ x) := by
  have f1 : FlowFr B w0 w1 := f.trans ⟨hb, fun k cs t fz a b _ _ => hk k cs t fz a b⟩
  have h1 : CkAt w1 g p v b S.length vt vo := hk _ _ _ _ h.ck (by decide)
  exact f1.set h1 h.bel.1 (.inr (.inl rfl)) 11 x
theorem CK.cellB {B g b : Nat} {p : Prg} {v : PV} {of : Rg} {vo vt : Value} {S : Sts} {td : List Nat} {w w1 : World} (h : CK B g b p v of vo S td vt w) (hk : KeepB 3 w w1) : (w1.cell? ⟨g, 11, none⟩ = some vt) ∧ w1.frozen? ⟨g, 11, none⟩ = false := by
  have h1 : CkAt w1 g p v b S.length vt vo := hk _ _ _ _ h.ck (by decide)
  exact ⟨h1.cell 11, h1.free 11⟩
theorem store_new16 {o : Oper} {a : Act} {w : World} {K : Act → World → Prop} {Q : Exit → Act → World → Prop} {z : Array Value} {h : Nat} {r : Rg} (hh : h = w.heap.size) (hz : z.size = 16) (h8 : r.length = 8) (x y : Operand) (ho : o.op = .store 79 x y)
    (hx : a.eval x = .pointer (some ⟨h, 0, none⟩)) (hy : a.eval y = rgV r) (hK : K (a.put o.dst undef) (w.alloc (.cells (rgC r).toArray 79))) : o.wp Try.prog a (w.alloc (.cells z 79)) K Q := by
  subst hh
  refine wp_store_row _ x y ho w.heap.size (rgC r).toArray hx hy 79 z (Go.heap_alloc_new _ _) (by rw [info_vrg]; simp [rgC_len h8]) (by rw [hz]; simp [rgC_len h8]) (all_oneCell_toArray (rgC_one r)) ?_
  rw [alloc_setRow]
  exact hK
theorem index_op {o : Oper} {a : Act} {w : World} {K : Act → World → Prop} {Q : Exit → Act → World → Prop} {r : Rg} {k : Nat} (h8 : r.length = 8) (hk : k < 8) (x y : Operand) (ho : o.op = .index 79 x y)
    (hx : a.eval x = rgV r) (hy : a.eval y = .int .i64 (k : Int)) (hK : K (a.put o.dst (.agg #[.int .i64 (rget r k).1, .int .i64 (rget r k).2])) w) : o.wp Try.prog a w K Q := by
  unfold Oper.wp execOp
  simp only [ho, hx, hy, Sem.run_bind, index_rg h8 hk, Result.andThen_ok, Sem.run_pure]
  exact hK
/-- so many ranges are joined -/
def jnUpto (s r q : Rg) (i : Nat) : Prop := q.length = 8 ∧ ∀ j, j < 8 → rget q j = if j < i then jn (rget s j) (rget r j) else rget s j
theorem jnUpto.start {s : Rg} (r : Rg) (h : s.length = 8) : jnUpto s r s 0 := ⟨h, fun j _ => by rw [if_neg (by omega)]⟩
theorem jnUpto.next {s r q : Rg} {i : Nat} (h : jnUpto s r q i) (hi : i < 8) : jnUpto s r (q.set i (jn (rget q i) (rget r i))) (i + 1) := by
  refine ⟨by simp [h.1], fun j hj => ?_⟩
  rw [rget_set q h.1 i _ j hj]
  by_cases e : i = j
  · subst e
    rw [if_pos rfl, if_pos (by omega), h.2 i hi, if_neg (by omega)]
  · rw [if_neg e, h.2 j hj]
    by_cases h1 : j < i
    · rw [if_pos h1, if_pos (by omega)]
    · rw [if_neg h1, if_neg (by omega)]
theorem jnUpto.fin {s r q : Rg} (h : jnUpto s r q 8) (hs : s.length = 8) (hr : r.length = 8) : q = joinR s r := by
  have hl : (joinR s r).length = 8 := by unfold joinR; simp [hs, hr]
  apply List.ext_getElem (by rw [h.1, hl])
  intro j h1 h2
  have hj : j < 8 := by rw [h.1] at h1; exact h1
  have e1 : rget q j = q[j] := by simp [rget, List.getD, List.getElem?_eq_getElem h1]
  have e2 : (joinR s r)[j] = jn (rget s j) (rget r j) := by
    unfold rget
    simp only [joinR, List.getElem_zipWith]
    rw [List.getD_eq_getElem?_getD, List.getD_eq_getElem?_getD, List.getElem?_eq_getElem (by omega), List.getElem?_eq_getElem (by omega)]; rfl
  rw [← e1, h.2 j hj, if_pos hj, e2]
theorem FlowFr.setNew {B : Nat} {w w' : World} (h : FlowFr B w w') {g : Nat} (hB : B ≤ g) (hg : w.heap.size ≤ g) (o : Nat) (x : Value) : FlowFr B w (w'.setCell ⟨g, o, none⟩ x) := by
  refine ⟨h.bel.setCell (by exact hB) _, fun k cs' t' fz' hk a b c => ?_⟩
  rw [heap_setCell_other _ _ _ _ (by have := (Array.getElem?_eq_some_iff.1 hk).1; dsimp only; omega)]
  exact h.keep k cs' t' fz' hk a b c
theorem CK.setElse {B g b : Nat} {p : Prg} {v : PV} {of : Rg} {vo vt : Value} {S : Sts} {td : List Nat} {w : World} (h : CK B g b p v of vo S td vt w) {gn : Nat} {cs : Array Value} {fz : Nat × Nat} (hn : w.heap[gn]? = some (.cells cs 79 fz)) (o : Nat) (x : Value) : CK B g b p v of vo S td vt (w.setCell ⟨gn, o, none⟩ x) := by
  have hh : ∀ k, k ≠ gn → (w.setCell ⟨gn, o, none⟩ x).heap[k]? = w.heap[k]? := fun k hk => heap_setCell_other _ _ _ _ (by exact hk)
  have hg : g ≠ gn := fun e => by
    subst e
    have h2 := h.ck
    unfold CkAt at h2
    rw [hn] at h2
    simp at h2
  have hb : b ≠ gn := fun e => by
    subst e
    obtain ⟨cs', h2⟩ := h.blkB
    rw [hn] at h2
    simp at h2
  refine ⟨h.ck.of_heap (hh g hg), h.sts.of_heap (hh b hb), h.td.other fun k hk => hh k fun e => ?_, h.of.other fun k hk => hh k fun e => ?_, h.bel⟩
  · subst e
    obtain ⟨cs', fz', h2⟩ := h.td.typed hk
    rw [hn] at h2
    simp at h2
  · subst e
    obtain ⟨cs', fz', h2⟩ := h.of.typed hk
    rw [hn] at h2
    simp at h2
/-- what a round of joining keeps -/
structure FL (B : Nat) (g b : Nat) (p : Prg) (v : PV) (of : Rg) (vo vt : Value) (S : Sts) (td : List Nat) (w0 : World) (gr gn : Nat) (r q : Rg) (w : World) : Prop where
  ck : CK B g b p v of vo S td vt w
  fr : FlowFr B w0 w
  rb : RgBox w gr r
  nb : RgBox w gn q
  sz : B ≤ w.heap.size
  ln : w0.heap.size ≤ gn ∧ gr ≠ gn
section
variable {B g b : Nat} {p : Prg} {v : PV} {of : Rg} {vo vt : Value} {S : Sts} {td : List Nat} {w0 w w' : World} {gr gn : Nat} {r q : Rg}
theorem FL.keep (h : FL B g b p v of vo vt S td w0 gr gn r q w) (hb : Below w.heap.size w w') : FL B g b p v of vo vt S td w0 gr gn r q w' :=
  ⟨h.ck.keep hb, h.fr.trans (FlowFr.of_below hb h.sz), h.rb.keep hb, h.nb.keep hb, Nat.le_trans h.sz hb.size, h.ln⟩
theorem FL.put (h : FL B g b p v of vo vt S td w0 gr gn r q w) (hB : B ≤ w0.heap.size) (h8 : q.length = 8) (k : Nat) (u : Int × Int) : FL B g b p v of vo vt S td w0 gr gn r (q.set k u) ((w.setCell ⟨gn, k * 2, none⟩ (.int .i64 u.1)).setCell ⟨gn, k * 2 + 1, none⟩ (.int .i64 u.2)) := by
  have hgn := h.ln.1
  have h1 := h.nb
  unfold RgBox at h1
  have h2 : (w.setCell ⟨gn, k * 2, none⟩ (.int .i64 u.1)).heap[gn]? = some (.cells ((rgC q).toArray.setIfInBounds (k * 2) (.int .i64 u.1)) 79 (0, 0)) := by
    rw [setCell_eq_setRow w gn (k * 2) _ _ _ _ h1, setRow_heap _ _ _ _ _ _ h1]
  refine ⟨(h.ck.setElse h1 _ _).setElse h2 _ _, (h.fr.setNew (by omega) hgn _ _).setNew (by omega) hgn _ _, (h.rb.oth h.ln.2).oth h.ln.2, h.nb.put h8 k u, by have := h.sz; simpa [World.setCell] using this, h.ln⟩
end
theorem tdI_snoc (td : List Nat) (k : Nat) : tdI (td ++ [k]) = tdI td ++ [(k : Int)] := by unfold tdI; simp
theorem there_set {w : World} {b k n o : Nat} {x : Value} (h : w.there b k n) (ho : o < k) : (w.setCell ⟨b, o, none⟩ x).there b k n := fun j hj => by
  obtain ⟨h1, h2⟩ := h j hj
  exact ⟨by rw [World.cell?_setCell_other _ _ _ _ (fun e => by injection e with _ e; omega)]; exact h1, by rw [World.frozen?_setCell]; exact h2⟩
set_option maxRecDepth 100000 in
set_option maxHeartbeats 8000000 in
theorem ver_flow0 {B : Nat} {p : Prg} {v : PV} {of : Rg} {vo vt : Value} {S : Sts} {td : List Nat} {g b : Nat} (k : Nat) (r : Rg) (w : World) (H : CK B g b p v of vo S td vt w) (hk : k < S.length) (hz : S.getD k none = none) (h8 : r.length = 8) (htd : td.length ≤ 10000000000) (hB : B ≤ w.heap.size) :
    Calls Try.prog 27 #[.pointer (some ⟨g, 0, none⟩), .int .i64 (k : Int), rgV r] w fun e w' => e = .returned (.tuple #[]) ∧ ∃ vt', CK B g b p v of vo (flow (S, td) k r).1 (flow (S, td) k r).2 vt' w' ∧ FlowFr B w w' := by
  obtain ⟨at', nt, ct, e⟩ := OwnR.form4 H.td
  subst e
  have HQ := Lib.hid H
  have HR : Hid (RgBox (w.alloc (.cells (rgC r).toArray 79)) w.heap.size r) := Lib.hid (RgBox.new _ _)
  have hb1 : Below w.heap.size w (w.alloc (.cells (rgC r).toArray 79)) := (Below.refl _ _).alloc (Nat.le_refl _) _
  have HQ1 := Lib.hid (H.keep hb1)
  have HF1 : Hid (FlowFr B w (w.alloc (.cells (rgC r).toArray 79))) := Lib.hid (FlowFr.of_below hb1 hB)
  have c10 := HQ1.out.ck.cell 10
  have c11 := HQ1.out.ck.cell 11
  have s0 := HQ1.out.sts.one k hk
  have hkI : (k : Int) < (S.length : Int) := by omega
  have H8 := Lib.hid h8
  have Hk := Lib.hid hk
  have Hz := Lib.hid hz
  rw [hz] at s0
  obtain ⟨n, hnn⟩ : ∃ n, n = S.length := ⟨_, rfl⟩
  rw [← hnn] at c10 hkI
  have Hn := Lib.hid hnn
  clear H hb1 hk h8 hnn hz
  go_enter Try.func27, Try.ntmps27
  repeat' (go_not_at_region 3; first | go_values | go_skip | go_guarded | go_step | go_upon)
  obtain ⟨gr, hgr⟩ : ∃ x, x = w.heap.size := ⟨_, rfl⟩
  rw [← hgr] at HR ⊢
  clear hgr
  refine gen_wd (fun w' => CK B g b p v of vo S td (.slice at' nt ct) w' ∧ FlowFr B w w' ∧ RgBox w' gr r ∧ B ≤ w'.heap.size) ⟨HQ1.out, HF1.out, HR.out, by rw [World.size_alloc]; omega⟩ ?_
  clear c10 c11 s0 HQ HQ1 HF1 HR
  rintro wa ⟨j1, j2, j3, j4⟩
  have J1 := Lib.hid j1
  have J2 := Lib.hid j2
  have J3 := Lib.hid j3
  have J4 := Lib.hid j4
  clear j1 j2 j3 j4
  have Q1 := Lib.hid (J1.out.keep ((Below.refl _ wa).drew))
  have F1 := Lib.hid (J2.out.trans (FlowFr.of_below ((Below.refl _ wa).drew) J4.out))
  have R1 : Hid (RgBox wa.drew gr r) := Lib.hid (J3.out.keep ((Below.refl _ wa).drew))
  have hgr : Hid (gr ≠ b) := Lib.hid fun e => by
    subst e
    obtain ⟨cs, h1, _⟩ := J1.out.sts.blk
    have h2 := J3.out
    unfold RgBox at h2
    rw [h1] at h2
    simp at h2
  have R2 : Hid (RgBox (wa.drew.setCell ⟨b, k * 17, none⟩ (.bool true)) gr r) := Lib.hid (R1.out.oth hgr.out)
  have s0 := Q1.out.sts.one k Hk.out
  have f0 := Q1.out.sts.free (k * 17)
  have Ht : Hid (∀ x, (wa.drew.setCell ⟨b, k * 17, none⟩ x).there b (k * 17 + 1) 16) := Lib.hid fun x => there_set (Q1.out.sts.there Hk.out) (by omega)
  refine wp_region_any (by kernel_rfl) ?_
  try (change wpAny _ _ _ _ _ _ _ (World.drew _))
  refine wpAny_take' (i := 0) (v := _) rfl (by kernel_rfl) (by kernel_rfl) (by kernel_rfl) (fun _ _ _ h => h) (Or.inl ⟨by rfl, fun w => by (go_simp <;> with_reducible rfl)⟩) (by go_simp <;> with_reducible rfl) ?_
  refine wpAny_take' (i := 1) (v := _) rfl (by kernel_rfl) (by kernel_rfl) (by kernel_rfl) (fun _ _ _ h => h) (Or.inl ⟨by rfl, fun w => by (go_simp <;> with_reducible rfl)⟩) (by go_simp <;> with_reducible rfl) ?_
  refine wpAny_take' (i := 3) (v := _) rfl (by kernel_rfl) (by kernel_rfl) (by kernel_rfl) (fun _ _ _ h => h) (Or.inl ⟨by rfl, fun w => by (go_simp <;> with_reducible rfl)⟩) (by go_simp <;> with_reducible rfl) ?_
  refine wpAny_take' (i := 4) (v := _) rfl (by kernel_rfl) (by kernel_rfl) (by kernel_rfl) (fun _ _ _ h => h) (Or.inl ⟨by rfl, fun w => by (go_simp <;> with_reducible rfl)⟩) (by go_simp <;> with_reducible rfl) ?_
  refine wpAny_ready (rs := [2, 5]) (by kernel_rfl) (by simp) ?_
  refine (AllReady.cons rfl (fun K hK => ?_) (AllReady.cons rfl (fun K hK => ?_) AllReady.nil))
  focus
    refine step_of rfl (load_rg R1.out H8.out _ rfl rfl ?_)
    refine hK _ _ ?_
    clear hK K
    refine wpAny_ready (rs := [5]) (by kernel_rfl) (by simp) ?_
    refine (AllReady.cons rfl (fun K hK => ?_) AllReady.nil)
    go_simp
    refine hK _ _ ?_
    clear hK K
    refine wpAny_take' (i := 6) (v := _) rfl (by kernel_rfl) (by kernel_rfl) (by kernel_rfl) (fun _ _ _ h => h) (Or.inl ⟨by rfl, fun w => by (go_simp <;> with_reducible rfl)⟩) (by go_simp <;> with_reducible rfl) ?_
    refine wpAny_take' (i := 7) (v := _) rfl (by kernel_rfl) (by kernel_rfl) (by kernel_rfl) (fun _ _ _ h => h) (Or.inl ⟨by rfl, fun w => by (go_simp <;> with_reducible rfl)⟩) (by go_simp <;> with_reducible rfl) ?_
    refine wpAny_ready (rs := [8]) (by kernel_rfl) (by simp) ?_
    refine (AllReady.cons rfl (fun K hK => ?_) AllReady.nil)
    refine step_of rfl (store_rg (Ht.out _) H8.out _ _ rfl rfl rfl ?_)
    refine hK _ _ ?_
    clear hK K
    refine wpAny_done' (by kernel_rfl) (by go_simp <;> with_reducible rfl) ?_
  rotate_left
  focus
    go_simp
    refine hK _ _ ?_
    clear hK K
    refine wpAny_ready (rs := [2]) (by kernel_rfl) (by simp) ?_
    refine (AllReady.cons rfl (fun K hK => ?_) AllReady.nil)
    refine step_of rfl (load_rg R2.out H8.out _ rfl rfl ?_)
    refine hK _ _ ?_
    clear hK K
    refine wpAny_take' (i := 6) (v := _) rfl (by kernel_rfl) (by kernel_rfl) (by kernel_rfl) (fun _ _ _ h => h) (Or.inl ⟨by rfl, fun w => by (go_simp <;> with_reducible rfl)⟩) (by go_simp <;> with_reducible rfl) ?_
    refine wpAny_take' (i := 7) (v := _) rfl (by kernel_rfl) (by kernel_rfl) (by kernel_rfl) (fun _ _ _ h => h) (Or.inl ⟨by rfl, fun w => by (go_simp <;> with_reducible rfl)⟩) (by go_simp <;> with_reducible rfl) ?_
    refine wpAny_ready (rs := [8]) (by kernel_rfl) (by simp) ?_
    refine (AllReady.cons rfl (fun K hK => ?_) AllReady.nil)
    refine step_of rfl (store_rg (Ht.out _) H8.out _ _ rfl rfl rfl ?_)
    refine hK _ _ ?_
    clear hK K
    refine wpAny_done' (by kernel_rfl) (by go_simp <;> with_reducible rfl) ?_
  all_goals
    repeat' (go_not_at_region 4; first | go_values | go_skip | go_guarded | go_step | go_upon)
    refine gen_wd (fun w' => CK B g b p v of vo (S.set k (some r)) td (.slice at' nt ct) w' ∧ FlowFr B w w' ∧ B ≤ w'.heap.size) ⟨Q1.out.reach Hk.out Hz.out H8.out, F1.out.reach Q1.out _ _ _ _, by
      have := F1.out.bel.size
      rw [size_setCells]
      have e : ∀ (x : World) y z, (x.setCell y z).heap.size = x.heap.size := fun x y z => by simp [World.setCell]
      first | (rw [e]; omega) | (show B ≤ ((wa.drew.setCell _ _).heap.size); rw [e]; omega)⟩ ?_
    clear s0 f0 Ht Q1 F1 R1 R2 J1 J2 J3 hgr
    rintro wb ⟨j1, j2, j3⟩
    have J1 := Lib.hid j1
    have J2 := Lib.hid j2
    clear j1 j2
    have c11 := J1.out.ck.cell 11
    have hown := J1.out.td
    repeat' (first | (at_builtin; go_loud (refine app_one 8 wb.heap.size rfl (k : Int) intC_len (intC_one _) Try.underlying32 info_int rfl rfl _ _ rfl rfl rfl rfl hown j3 (by simp only [tdI, List.length_map]; omega) (by simp only [tdI, List.length_map]; unfold maxLen; omega) ?_); intro v4 w4 hown4 hb4 hk4 _; obtain ⟨c4, f4⟩ := J1.out.cellB hk4; obtain ⟨a4, n4, cp4, e4⟩ := hown4.form4; subst e4) | go_values | go_skip | go_guarded | go_step | go_upon)
    refine bodyPost_ret (results_none rfl _ _ _) rfl ?_
    exact ⟨rfl, _, by
      unfold flow; rw [Hz.out]; dsimp only
      exact J1.out.push (by rw [tdI_snoc]; exact hown4) hk4, J2.out.push J1.out hb4 hk4 _⟩
end Go.Proofs.Ytkpdcejnanhgoaa
/- Walk: ranges come to a place that is known already (flow). Conditions: the checker lies in memory; few places are to be looked at. -/
namespace Go.Proofs.Ytkpdcejnanhgoaa
open Go.RowKit
theorem jn_ifs (a b : Int × Int) : jn a b = (if b.1 < a.1 then b.1 else a.1, if a.2 < b.2 then b.2 else a.2) := by
  unfold jn
  apply Prod.ext <;> (dsimp only; split <;> omega)
theorem eq_rg0 {r q : Rg} (hr : r.length = 8) (hq : q.length = 8) (w : World) : (Op.equalIn 10000 79 (rgV r) (rgV q)).run Try.prog w = .ok (decide (r = q)) w := by
  obtain ⟨i, hi, _⟩ := Option.map_eq_some_iff.1 info_vsp
  rw [run_equalIn_array (P := Try.prog) w 9999 (rgC r).toArray (rgC q).toArray Try.underlying79 hi, cells_vsp, eq_items w 9997 hr hq rfl rfl (List.range 8) (fun i hi => List.mem_range.1 hi), rg_all hr hq]
theorem quiet_neq_rg {w0 : World} {o : Oper} {a : Act} {r q : Rg} {K : Act → Prop} {c : Bool} (hc : c = decide (r = q)) (hr : r.length = 8) (hq : q.length = 8) (x y : Operand) (u : TypeId) (ho : o.op = .binOp .neq 79 x y u) (hx : a.eval x = rgV r) (hy : a.eval y = rgV q) (h : K (a.put o.dst (.bool (!c)))) :
    o.quiet Try.prog a (fun w' => ∃ n : WB w0, w' = n.1) K := by
  refine ⟨_, fun w ⟨nq, e⟩ => ?_, h⟩
  subst e hc
  have r1 := eq_rg0 hr hq nq.1
  unfold Oper.quietAt execOp
  have hE : Try.prog.eqGuardType Try.prog.depth 79 = false := by kernel_rfl
  have hg : (eqGuard .neq 79 x y (rgV r) (rgV q)).run Try.prog nq.1 = .ok () nq.1 := by
    unfold eqGuard
    simp [hE, Sem.run_bind, Result.andThen_ok, Sem.run_pure]
  have hb : (binOp .neq 79 (rgV r) (rgV q)).run Try.prog nq.1 = .ok (.bool (!decide (r = q))) nq.1 := by
    unfold binOp Op.equal
    simp only [Sem.run_bind]
    erw [r1]
    rfl
  simp only [ho, hx, hy, Sem.run_bind, hg, hb, Result.andThen_ok, Sem.run_pure, Oper.quietUpon, and_self]
set_option maxRecDepth 100000 in
set_option maxHeartbeats 8000000 in
theorem ver_flow1 {B : Nat} {p : Prg} {v : PV} {of : Rg} {vo vt : Value} {S : Sts} {td : List Nat} {g b : Nat} (k : Nat) (r : Rg) (w : World) (H : CK B g b p v of vo S td vt w) (hk : k < S.length) {s : Rg} (hz : S.getD k none = some s) (h8 : r.length = 8) (htd : td.length ≤ 10000000000) (hB : B ≤ w.heap.size) :
    Calls Try.prog 27 #[.pointer (some ⟨g, 0, none⟩), .int .i64 (k : Int), rgV r] w fun e w' => e = .returned (.tuple #[]) ∧ ∃ vt', CK B g b p v of vo (flow (S, td) k r).1 (flow (S, td) k r).2 vt' w' ∧ FlowFr B w w' := by
  obtain ⟨at', nt, ct, e⟩ := OwnR.form4 H.td
  subst e
  have HQ := Lib.hid H
  have HR : Hid (RgBox (w.alloc (.cells (rgC r).toArray 79)) w.heap.size r) := Lib.hid (RgBox.new _ _)
  have hb1 : Below w.heap.size w (w.alloc (.cells (rgC r).toArray 79)) := (Below.refl _ _).alloc (Nat.le_refl _) _
  have HQ1 := Lib.hid (H.keep hb1)
  have HF1 : Hid (FlowFr B w (w.alloc (.cells (rgC r).toArray 79))) := Lib.hid (FlowFr.of_below hb1 hB)
  have c10 := HQ1.out.ck.cell 10
  have c11 := HQ1.out.ck.cell 11
  have s0 := HQ1.out.sts.one k hk
  have hkI : (k : Int) < (S.length : Int) := by omega
  have H8 := Lib.hid h8
  have Hk := Lib.hid hk
  have Hz := Lib.hid hz
  rw [hz] at s0
  obtain ⟨n, hnn⟩ : ∃ n, n = S.length := ⟨_, rfl⟩
  rw [← hnn] at c10 hkI
  have Hn := Lib.hid hnn
  clear H hb1 hk h8 hnn hz
  go_enter Try.func27, Try.ntmps27
  repeat' (go_not_at_region 5; first | go_values | go_skip | go_guarded | go_step | go_upon)
  obtain ⟨gr, hgr⟩ : ∃ x, x = w.heap.size := ⟨_, rfl⟩
  rw [← hgr] at HR ⊢
  clear hgr
  have Hs8 := Lib.hid (HQ1.out.sts.len k s Hz.out)
  refine gen_wd (fun w' => CK B g b p v of vo S td (.slice at' nt ct) w' ∧ FlowFr B w w' ∧ RgBox w' gr r ∧ B ≤ w'.heap.size) ⟨HQ1.out, HF1.out, HR.out, by rw [World.size_alloc]; omega⟩ ?_
  clear c10 c11 s0 HQ HQ1 HF1 HR
  rintro wa ⟨j1, j2, j3, j4⟩
  have J1 := Lib.hid j1
  have J2 := Lib.hid j2
  have J3 := Lib.hid j3
  have J4 := Lib.hid j4
  clear j1 j2 j3 j4
  have Hreg : Hid (wa.rangeAt b (k * 17 + 1) (rgC s)) := Lib.hid (by have := J1.out.sts.regs k Hk.out; rw [Hz.out] at this; exact this)
  repeat' (go_not_at_region 6; first | (with_reducible refine load_mid Hreg.out Hs8.out _ rfl rfl ?_) | (with_reducible refine store_new16 rfl rfl Hs8.out _ _ rfl rfl rfl ?_) | go_values | go_skip | go_guarded | go_step | go_upon)
  obtain ⟨gn, hgn⟩ : ∃ x, x = wa.heap.size := ⟨_, rfl⟩
  have HL0 : Hid (FL B g b p v of vo (.slice at' nt ct) S td w gr gn r s (wa.alloc (.cells (rgC s).toArray 79))) := Lib.hid (by
    have hb : Below wa.heap.size wa (wa.alloc (.cells (rgC s).toArray 79)) := (Below.refl _ _).alloc (Nat.le_refl _) _
    refine ⟨J1.out.keep hb, J2.out.trans (FlowFr.of_below hb J4.out), J3.out.keep hb, by rw [hgn]; exact RgBox.new _ _, by rw [World.size_alloc]; have := J4.out; omega, by rw [hgn]; exact J2.out.bel.size, by rw [hgn]; have := J3.out.lt; omega⟩)
  rw [← hgn]
  clear hgn
  refine gen_wd (FL B g b p v of vo (.slice at' nt ct) S td w gr gn r s) HL0.out ?_
  clear HL0 Hreg J1 J2 J3 J4
  intro wl hl
  have HL := Lib.hid hl
  clear hl
  have HJ0 := Lib.hid (jnUpto.start r Hs8.out)
  repeat' (first | (with_reducible refine load_rg HL.out.rb H8.out _ rfl rfl ?_) | go_values | go_skip | go_guarded | go_step | go_upon)
  go_loopw [8, 9, 43] (fun _ _ s43 wr => ∃ (i : Nat) (q : Rg), s43 = .int .i64 i ∧ i ≤ 8 ∧ Hid (jnUpto s r q i) ∧ Hid (FL B g b p v of vo (.slice at' nt ct) S td w gr gn r q wr)) (fun _ _ s43 _ => 8 - (intOf s43).toNat)
  case atStart => exact ⟨0, s, rfl, by decide, HJ0, HL⟩
  case round =>
    clear HJ0 HL
    obtain ⟨i, q, rfl, hi, HJ, HL⟩ := hrel
    by_cases hlt : i < 8
    · repeat' (go_not_at_region 9; first | (with_reducible refine index_op H8.out hlt _ _ rfl rfl rfl ?_) | go_values | go_skip | go_guarded | go_step | go_upon)
      obtain ⟨gs, hgs⟩ : ∃ x, x = wr.heap.size := ⟨_, rfl⟩
      have HLs := Lib.hid (HL.out.keep ((Below.refl _ wr).alloc (Nat.le_refl _) (.cells #[.int .i64 (rget r i).1, .int .i64 (rget r i).2] 77)))
      have Hs : Hid ((wr.alloc (.cells #[.int .i64 (rget r i).1, .int .i64 (rget r i).2] 77)).heap[gs]? = some (.cells #[.int .i64 (rget r i).1, .int .i64 (rget r i).2] 77 (0, 0))) := Lib.hid (by rw [hgs]; exact Go.heap_alloc_new _ _)
      rw [← hgs]
      clear hgs
      refine gen_wd (fun w' => FL B g b p v of vo (.slice at' nt ct) S td w gr gn r q w' ∧ w'.heap[gs]? = some (.cells #[.int .i64 (rget r i).1, .int .i64 (rget r i).2] 77 (0, 0))) ⟨HLs.out, Hs.out⟩ ?_
      clear HLs Hs HL
      rintro ws ⟨hl, hs⟩
      have HL := Lib.hid hl
      have Hs := Lib.hid hs
      clear hl hs
      have e0 : ∀ nq : WB ws, nq.1.cell? ⟨gn, i * 2, none⟩ = some (.int .i64 (rget q i).1) := fun nq => ((HL.out.nb.keep nq.2).two HJ.out.1 hlt).1
      have e1 : ∀ nq : WB ws, nq.1.cell? ⟨gn, i * 2 + 1, none⟩ = some (.int .i64 (rget q i).2) := fun nq => ((HL.out.nb.keep nq.2).two HJ.out.1 hlt).2
      have e2 : ∀ nq : WB ws, nq.1.cell? ⟨gs, 0, none⟩ = some (.int .i64 (rget r i).1) := fun nq => by
        have h := nq.2.block gs (Array.getElem?_eq_some_iff.1 Hs.out).1
        rw [Hs.out] at h
        rw [cell_of_row _ _ _ _ _ _ h]; rfl
      have e3 : ∀ nq : WB ws, nq.1.cell? ⟨gs, 1, none⟩ = some (.int .i64 (rget r i).2) := fun nq => by
        have h := nq.2.block gs (Array.getElem?_eq_some_iff.1 Hs.out).1
        rw [Hs.out] at h
        rw [cell_of_row _ _ _ _ _ _ h]; rfl
      have hI : (i : Int) < 8 := by omega
      refine wp_region_tail 17 (by kernel_rfl) (by kernel_rfl) ws (Below.refl _ _) ?_
      simp only [List.take_succ_cons, List.take_zero, List.drop_succ_cons, List.drop_zero]
      repeat (go_big_quiet_step ((fail)))
      refine wpQuiet_nil ?_
      rintro _ ⟨nq, rfl⟩
      have hnq := nq.2
      have f0 := (HL.out.nb.keep hnq).free (i * 2)
      have f1 := (HL.out.nb.keep hnq).free (i * 2 + 1)
      have HLn := Lib.hid (HL.out.keep hnq)
      have HP := Lib.hid (HLn.out.put hB HJ.out.1 i (if (rget r i).1 < (rget q i).1 then (rget r i).1 else (rget q i).1, if (rget q i).2 < (rget r i).2 then (rget r i).2 else (rget q i).2))
      repeat' (first | go_values | go_skip | go_guarded | go_step | go_upon)
      go_roundw
      case rel => exact ⟨i + 1, _, by go_num, hlt, Lib.hid (by rw [← jn_ifs]; exact HJ.out.next hlt), HP⟩
      case measure => simp [intOf]; omega
    · obtain rfl : i = 8 := by omega
      repeat' (go_not_at_region 11; first | go_values | go_skip | go_guarded | go_step | go_upon)
      have Hq : Hid (q = joinR s r) := Lib.hid (HJ.out.fin Hs8.out H8.out)
      have Hq8 : Hid (q.length = 8) := Lib.hid HJ.out.1
      obtain ⟨c, hc⟩ : ∃ c, c = decide (q = s) := ⟨_, rfl⟩
      have Hc := Lib.hid hc
      clear hc
      refine wp_region_np (wp_region_n [0, 1, 2, 3, 4, 5] [] ⟨[], []⟩ (by kernel_rfl) (by kernel_rfl) (by kernel_rfl) (fun _ _ _ _ _ h => h) (monoR_nil) wr (Below.refl _ _) ?_)
      simp only [opsAt, opsOf, List.filterMap_cons, List.filterMap_nil, List.getElem?_cons_zero, List.getElem?_cons_succ, Option.map_some]
      refine lexN_D rfl rfl rfl rfl ?_
      intro K hK
      refine quiet_load_rg (fun nq => HL.out.nb.keep nq.2) Hq8.out _ rfl rfl ?_
      simp only [Act.put, List.setIfInBounds_toArray, List.set_cons_succ, List.set_cons_zero]
      go_big_quiet_on
      repeat (first | (refine lexN_D rfl rfl rfl rfl ?_; intro K hK; go_big_quiet_op; go_big_quiet_on) | (refine lexN_L rfl rfl rfl ?_; intro K hK; go_big_quiet_op; go_big_quiet_on))
      refine lexN_D rfl rfl rfl rfl ?_
      intro K hK
      refine quiet_load_mid (fun nq => (by have h := (HL.out.ck.keep nq.2).sts.regs k Hk.out; rw [Hz.out] at h; exact h)) Hs8.out _ rfl rfl ?_
      simp only [Act.put, List.setIfInBounds_toArray, List.set_cons_succ, List.set_cons_zero]
      go_big_quiet_on
      refine lexN_D rfl rfl rfl rfl ?_
      intro K hK
      refine quiet_neq_rg Hc.out Hq8.out Hs8.out _ _ _ rfl rfl rfl ?_
      simp only [Act.put, List.setIfInBounds_toArray, List.set_cons_succ, List.set_cons_zero]
      go_big_quiet_on
      refine lexN_nil ?_
      rintro _ ⟨nq, rfl⟩ _
      have HLn := Lib.hid (HL.out.keep nq.2)
      clear HL
      cases c
      rotate_left
      · have Hqs : Hid (q = s) := Lib.hid (by simpa using Hc.out.symm)
        repeat' (first | (with_reducible refine NoPan.normal ?_) | go_values | go_skip | go_guarded | go_step | go_upon)
        go_end0
        refine ⟨rfl, .slice at' nt ct, ?_, HLn.out.fr⟩
        unfold flow
        rw [Hz.out]
        dsimp only
        rw [if_pos (by rw [← Hq.out]; exact Hqs.out)]
        exact HLn.out.ck
      · have Hqs : Hid (¬ q = s) := Lib.hid (by simpa using Hc.out.symm)
        repeat' (go_not_at_region 13; first | (with_reducible refine NoPan.normal ?_) | (with_reducible refine load_rg HLn.out.nb Hq8.out _ rfl rfl ?_) | (with_reducible refine store_rg (HLn.out.ck.sts.there Hk.out) Hq8.out _ _ rfl rfl rfl ?_) | go_values | go_skip | go_guarded | go_step | go_upon)
        refine gen_wd (fun w' => CK B g b p v of vo (S.set k (some q)) td (.slice at' nt ct) w' ∧ FlowFr B w w' ∧ B ≤ w'.heap.size) ⟨HLn.out.ck.turnAt Hk.out (by rw [Hz.out]; rfl) Hq8.out, (by
          obtain ⟨cs, h1⟩ := HLn.out.ck.blkB
          exact HLn.out.fr.sets h1 HLn.out.ck.bel.2 _ _), by rw [size_setCells]; exact HLn.out.sz⟩ ?_
        clear HLn
        rintro wb ⟨j1, j2, j3⟩
        have J1 := Lib.hid j1
        have J2 := Lib.hid j2
        clear j1 j2
        have c11 := J1.out.ck.cell 11
        have hown := J1.out.td
        repeat' (first | (at_builtin; go_loud (refine app_one 8 wb.heap.size rfl (k : Int) intC_len (intC_one _) Try.underlying32 info_int rfl rfl _ _ rfl rfl rfl rfl hown j3 (by simp only [tdI, List.length_map]; omega) (by simp only [tdI, List.length_map]; unfold maxLen; omega) ?_); intro v4 w4 hown4 hb4 hk4 _; obtain ⟨c4, f4⟩ := J1.out.cellB hk4; obtain ⟨a4, n4, cp4, e4⟩ := hown4.form4; subst e4) | go_values | go_skip | go_guarded | go_step | go_upon)
        go_end0
        refine ⟨rfl, .slice a4 n4 cp4, ?_, J2.out.push J1.out hb4 hk4 _⟩
        unfold flow
        rw [Hz.out]
        dsimp only
        rw [if_neg (by rw [← Hq.out]; exact Hqs.out), ← Hq.out]
        exact J1.out.push (by rw [tdI_snoc]; exact hown4) hk4
theorem ver_flow {B : Nat} {p : Prg} {v : PV} {of : Rg} {vo vt : Value} {S : Sts} {td : List Nat} {g b : Nat} (k : Nat) (r : Rg) (w : World) (H : CK B g b p v of vo S td vt w) (hk : k < S.length) (h8 : r.length = 8) (htd : td.length ≤ 10000000000) (hB : B ≤ w.heap.size) :
    Calls Try.prog 27 #[.pointer (some ⟨g, 0, none⟩), .int .i64 (k : Int), rgV r] w fun e w' => e = .returned (.tuple #[]) ∧ ∃ vt', CK B g b p v of vo (flow (S, td) k r).1 (flow (S, td) k r).2 vt' w' ∧ FlowFr B w w' := by
  cases hz : S.getD k none with
  | none => exact ver_flow0 k r w H hk hz h8 htd hB
  | some s => exact ver_flow1 k r w H hk hz h8 htd hB
end Go.Proofs.Ytkpdcejnanhgoaa
/- Walk: what an instruction hands on, with one register's range turned (the closure in step). Conditions: the checker and the variables lie in memory. -/
namespace Go.Proofs.Ytkpdcejnanhgoaa
open Go.RowKit
/-- a variable that holds the checker's address -/
def PtBox (w : World) (g2 g : Nat) : Prop := w.heap[g2]? = some (.cells #[.pointer (some ⟨g, 0, none⟩)] 68 (0, 0))
theorem PtBox.cell {w : World} {g2 g : Nat} (h : PtBox w g2 g) : w.cell? ⟨g2, 0, none⟩ = some (.pointer (some ⟨g, 0, none⟩)) := by
  rw [cell_of_row w g2 0 _ _ _ h]; rfl
/-- the variables of step: the registers, the instruction, the checker -/
structure WV (g5 g4 g2 g : Nat) (r : Rg) (x : Nat → Int) (w : World) : Prop where
  rb : RgBox w g5 r
  ins : InsAt w g4 x
  pt : PtBox w g2 g
theorem WV.flow {B g5 g4 g2 g : Nat} {r : Rg} {x : Nat → Int} {w w' : World} (h : WV g5 g4 g2 g r x w) (f : FlowFr B w w') : WV g5 g4 g2 g r x w' :=
  ⟨f.keep _ _ _ _ h.rb (by decide) (by decide) (by decide), f.keep _ _ _ _ h.ins (by decide) (by decide) (by decide), f.keep _ _ _ _ h.pt (by decide) (by decide) (by decide)⟩
theorem WV.keep {g5 g4 g2 g : Nat} {r : Rg} {x : Nat → Int} {w w' : World} (h : WV g5 g4 g2 g r x w) (hb : Below w.heap.size w w') : WV g5 g4 g2 g r x w' :=
  ⟨h.rb.keep hb, h.ins.keep hb, by have h1 := h.pt; unfold PtBox at h1 ⊢; rw [hb.block g2 (Array.getElem?_eq_some_iff.1 h1).1]; exact h1⟩
theorem flow_len {S : Sts} {td : List Nat} {k : Nat} {r : Rg} : (flow (S, td) k r).1.length = S.length ∧ (flow (S, td) k r).2.length ≤ td.length + 1 := by
  unfold flow
  dsimp only
  cases S.getD k none with
  | none => simp
  | some q => dsimp only; split <;> simp
theorem flowO_len {S : Sts} {td : List Nat} {k : Nat} {o : Option Rg} : (flowO (S, td) k o).1.length = S.length ∧ (flowO (S, td) k o).2.length ≤ td.length + 1 := by
  cases o with
  | none => exact ⟨rfl, by unfold flowO; dsimp only; omega⟩
  | some r => exact flow_len
theorem ver_flowI {B : Nat} {p : Prg} {v : PV} {of : Rg} {vo vt : Value} {S : Sts} {td : List Nat} {g b : Nat} (tg : Int) (r : Rg) (w : World) (H : CK B g b p v of vo S td vt w) (hk : 0 ≤ tg ∧ tg < S.length) (h8 : r.length = 8) (htd : td.length ≤ 10000000000) (hB : B ≤ w.heap.size) :
    Calls Try.prog 27 #[.pointer (some ⟨g, 0, none⟩), .int .i64 tg, rgV r] w fun e w' => e = .returned (.tuple #[]) ∧ ∃ vt', CK B g b p v of vo (flow (S, td) tg.toNat r).1 (flow (S, td) tg.toNat r).2 vt' w' ∧ FlowFr B w w' := by
  obtain ⟨k, rfl⟩ : ∃ k : Nat, tg = (k : Int) := ⟨tg.toNat, by omega⟩
  exact ver_flow k r w H (by omega) h8 htd hB
set_option maxRecDepth 100000 in
set_option maxHeartbeats 8000000 in
theorem ver_with {B : Nat} {p : Prg} {v : PV} {of : Rg} {vo vt : Value} {S : Sts} {td : List Nat} {g b : Nat} {g5 g4 g2 : Nat} {r : Rg} {x : Nat → Int} (tg : Int) (u : Int × Int) (a : Nat) (w : World) (H : CK B g b p v of vo S td vt w) (W : WV g5 g4 g2 g r x w) (ha : x 1 = (a : Int)) (ha8 : a < 8)
    (hk : u.1 ≤ u.2 → 0 ≤ tg ∧ tg < S.length) (h8 : r.length = 8) (htd : td.length ≤ 10000000000) (hB : B ≤ w.heap.size) :
    Calls Try.prog 45 #[.int .i64 tg, .agg #[.int .i64 u.1, .int .i64 u.2], .pointer (some ⟨g5, 0, none⟩), .pointer (some ⟨g4, 0, none⟩), .pointer (some ⟨g2, 0, none⟩)] w fun e w' => e = .returned (.tuple #[]) ∧ ∃ vt', CK B g b p v of vo (flowO (S, td) tg.toNat (ifIn (u.1 ≤ u.2) (r.set a u))).1 (flowO (S, td) tg.toNat (ifIn (u.1 ≤ u.2) (r.set a u))).2 vt' w' ∧ FlowFr B w w' := by
  obtain ⟨lo, hi⟩ := u
  dsimp only at hk ⊢
  have hb1 : Below w.heap.size w (w.alloc (.cells #[.int .i64 lo, .int .i64 hi] 77)) := (Below.refl _ _).alloc (Nat.le_refl _) _
  have H1 := Lib.hid (H.keep hb1)
  have W1 := Lib.hid (W.keep hb1)
  have F1 : Hid (FlowFr B w (w.alloc (.cells #[.int .i64 lo, .int .i64 hi] 77))) := Lib.hid (FlowFr.of_below hb1 hB)
  have H8 := Lib.hid h8
  have HK := Lib.hid hk
  have Ha := Lib.hid ha
  by_cases hlo : lo ≤ hi
  · obtain ⟨k0, k1⟩ := hk hlo
    obtain ⟨k, rfl⟩ : ∃ k : Nat, tg = (k : Int) := ⟨tg.toNat, by omega⟩
    have hkS : k < S.length := by omega
    have HkS := Lib.hid hkS
    clear H W hb1 h8 hk ha k0 k1 hkS
    go_enter Try.func45, Try.ntmps45
    repeat' (go_not_at_region 2; first | go_values | go_skip | go_guarded | go_step | go_upon)
    obtain ⟨gb, hgb⟩ : ∃ y, y = w.heap.size := ⟨_, rfl⟩
    have Hb : Hid ((w.alloc (.cells #[.int .i64 lo, .int .i64 hi] 77)).heap[gb]? = some (.cells #[.int .i64 lo, .int .i64 hi] 77 (0, 0))) := Lib.hid (by rw [hgb]; exact Go.heap_alloc_new _ _)
    rw [← hgb]
    clear hgb
    refine gen_wd (fun w' => CK B g b p v of vo S td vt w' ∧ WV g5 g4 g2 g r x w' ∧ FlowFr B w w' ∧ w'.heap[gb]? = some (.cells #[.int .i64 lo, .int .i64 hi] 77 (0, 0)) ∧ B ≤ w'.heap.size) ⟨H1.out, W1.out, F1.out, Hb.out, by rw [World.size_alloc]; omega⟩ ?_
    clear H1 W1 F1 Hb
    rintro wa ⟨j1, j2, j3, j4, j5⟩
    have H1 := Lib.hid j1
    have W1 := Lib.hid j2
    have F1 := Lib.hid j3
    have Hb := Lib.hid j4
    have H5 := Lib.hid j5
    clear j1 j2 j3 j4 j5
    repeat' (go_not_at_region 3; first | (with_reducible refine load_rg W1.out.rb H8.out _ rfl rfl ?_) | (with_reducible refine store_new16 rfl rfl H8.out _ _ rfl rfl rfl ?_) | go_values | go_skip | go_guarded | go_step | go_upon)
    obtain ⟨gn, hgn⟩ : ∃ y, y = wa.heap.size := ⟨_, rfl⟩
    have hb2 : Below wa.heap.size wa (wa.alloc (.cells (rgC r).toArray 79)) := (Below.refl _ _).alloc (Nat.le_refl _) _
    have Hn : Hid (RgBox (wa.alloc (.cells (rgC r).toArray 79)) gn r) := Lib.hid (by rw [hgn]; exact RgBox.new _ _)
    have HG : Hid (w.heap.size ≤ gn ∧ gb < gn) := Lib.hid ⟨by rw [hgn]; exact F1.out.bel.size, by rw [hgn]; exact (Array.getElem?_eq_some_iff.1 Hb.out).1⟩
    rw [← hgn]
    refine gen_wd (fun w' => CK B g b p v of vo S td vt w' ∧ WV g5 g4 g2 g r x w' ∧ FlowFr B w w' ∧ w'.heap[gb]? = some (.cells #[.int .i64 lo, .int .i64 hi] 77 (0, 0)) ∧ RgBox w' gn r ∧ B ≤ w'.heap.size) ⟨H1.out.keep hb2, W1.out.keep hb2, F1.out.trans (FlowFr.of_below hb2 H5.out), by rw [hb2.block gb (Array.getElem?_eq_some_iff.1 Hb.out).1]; exact Hb.out, Hn.out, by rw [World.size_alloc]; have := H5.out; omega⟩ ?_
    clear H1 W1 F1 Hb H5 Hn hb2 hgn
    rintro wc ⟨j1, j2, j3, j4, j6, j5⟩
    have H1 := Lib.hid j1
    have W1 := Lib.hid j2
    have F1 := Lib.hid j3
    have c0 : wc.cell? ⟨gb, 0, none⟩ = some (.int .i64 lo) := by rw [cell_of_row _ _ _ _ _ _ j4]; rfl
    have c1 : wc.cell? ⟨gb, 1, none⟩ = some (.int .i64 hi) := by rw [cell_of_row _ _ _ _ _ _ j4]; rfl
    have c2 : wc.cell? ⟨g4, 1, none⟩ = some (.int .i64 (a : Int)) := by rw [← Ha.out]; exact j2.ins.cell 1 (by decide)
    have c3 : wc.cell? ⟨g2, 0, none⟩ = some (.pointer (some ⟨g, 0, none⟩)) := j2.pt.cell
    have c4 := (j6.two H8.out ha8).1
    have c5 := (j6.two H8.out ha8).2
    have f4 := j6.free (a * 2)
    have f5 := j6.free (a * 2 + 1)
    have ha8' : (a : Int) < 8 := by omega
    have H6 := Lib.hid j6
    have H5 := Lib.hid j5
    have HBg : Hid (B ≤ gn) := Lib.hid (Nat.le_trans hB HG.out.1)
    have HP := Lib.hid (j6.put H8.out a (lo, hi))
    have Hg2 : Hid (g2 ≠ gn) := Lib.hid fun e => by
      subst e
      have h1 := j2.pt
      unfold PtBox at h1
      unfold RgBox at j6
      rw [j6] at h1
      simp at h1
    clear j1 j2 j3 j4 j5 j6
    repeat' (go_not_at_region 4; first | go_values | go_skip | go_guarded | go_step | go_upon)
    refine gen_wd (fun w' => CK B g b p v of vo S td vt w' ∧ FlowFr B w w' ∧ RgBox w' gn (r.set a (lo, hi)) ∧ B ≤ w'.heap.size ∧ w'.cell? ⟨g2, 0, none⟩ = some (.pointer (some ⟨g, 0, none⟩))) ⟨?_, (F1.out.setNew HBg.out HG.out.1 _ _).setNew HBg.out HG.out.1 _ _, HP.out, by have := H5.out; simpa [World.setCell] using this, ?_⟩ ?_
    · have h1 := H6.out
      unfold RgBox at h1
      have h2 : (wc.setCell ⟨gn, a * 2, none⟩ (.int .i64 lo)).heap[gn]? = some (.cells ((rgC r).toArray.setIfInBounds (a * 2) (.int .i64 lo)) 79 (0, 0)) := by
        rw [setCell_eq_setRow wc gn (a * 2) _ _ _ _ h1, setRow_heap _ _ _ _ _ _ h1]
      exact (H1.out.setElse h1 _ _).setElse h2 _ _
    · rw [World.cell?_setCell_other _ _ _ _ (fun e => Hg2.out (by injection e with e _; exact e.symm)), World.cell?_setCell_other _ _ _ _ (fun e => Hg2.out (by injection e with e _; exact e.symm))]
      exact c3
    clear H1 W1 F1 H6 H5 HP c0 c1 c2 c3 c4 c5 f4 f5
    rintro wd ⟨j1, j2, j3, j4, c3⟩
    have H1 := Lib.hid j1
    have F1 := Lib.hid j2
    have H3 := Lib.hid j3
    have H4 := Lib.hid j4
    clear j1 j2 j3 j4
    have H9 : Hid ((r.set a (lo, hi)).length = 8) := Lib.hid (by simp [H8.out])
    repeat' (first | (with_reducible refine load_rg H3.out H9.out _ rfl rfl ?_) | (go_at_call 27; refine Calls.mono (ver_flow k _ _ H1.out HkS.out H9.out htd H4.out) ?_; rintro _ we ⟨rfl, vt', hc, hf⟩; dsimp only) | go_values | go_skip | go_guarded | go_step | go_upon)
    go_end0
    refine ⟨rfl, vt', ?_, F1.out.trans hf⟩
    unfold ifIn flowO
    rw [if_pos hlo]
    exact hc
  · clear H W hb1 h8 hk ha
    go_enter Try.func45, Try.ntmps45
    repeat' (first | go_values | go_skip | go_guarded | go_step | go_upon)
    go_end0
    refine ⟨rfl, vt, ?_, F1.out⟩
    unfold ifIn flowO
    rw [if_neg hlo]
    exact H1.out
theorem ver_withP {B : Nat} {p : Prg} {v : PV} {of : Rg} {vo vt : Value} {g b : Nat} {g5 g4 g2 : Nat} {r : Rg} {x : Nat → Int} (St : Sts × List Nat) (tg : Int) (u : Int × Int) (a : Nat) (w : World) (H : CK B g b p v of vo St.1 St.2 vt w) (W : WV g5 g4 g2 g r x w) (ha : x 1 = (a : Int)) (ha8 : a < 8)
    (hk : u.1 ≤ u.2 → 0 ≤ tg ∧ tg < St.1.length) (h8 : r.length = 8) (htd : St.2.length ≤ 10000000000) (hB : B ≤ w.heap.size) :
    Calls Try.prog 45 #[.int .i64 tg, .agg #[.int .i64 u.1, .int .i64 u.2], .pointer (some ⟨g5, 0, none⟩), .pointer (some ⟨g4, 0, none⟩), .pointer (some ⟨g2, 0, none⟩)] w fun e w' => e = .returned (.tuple #[]) ∧ ∃ vt', CK B g b p v of vo (flowO St tg.toNat (ifIn (u.1 ≤ u.2) (r.set a u))).1 (flowO St tg.toNat (ifIn (u.1 ≤ u.2) (r.set a u))).2 vt' w' ∧ FlowFr B w w' := by
  obtain ⟨S, td⟩ := St
  exact ver_with tg u a w H W ha ha8 hk h8 htd hB
theorem ver_flowP {B : Nat} {p : Prg} {v : PV} {of : Rg} {vo vt : Value} {g b : Nat} (St : Sts × List Nat) (tg : Int) (r : Rg) (w : World) (H : CK B g b p v of vo St.1 St.2 vt w) (hk : 0 ≤ tg ∧ tg < St.1.length) (h8 : r.length = 8) (htd : St.2.length ≤ 10000000000) (hB : B ≤ w.heap.size) :
    Calls Try.prog 27 #[.pointer (some ⟨g, 0, none⟩), .int .i64 tg, rgV r] w fun e w' => e = .returned (.tuple #[]) ∧ ∃ vt', CK B g b p v of vo (flowO St tg.toNat (some r)).1 (flowO St tg.toNat (some r)).2 vt' w' ∧ FlowFr B w w' := by
  obtain ⟨S, td⟩ := St
  exact ver_flowI tg r w H hk h8 htd hB
end Go.Proofs.Ytkpdcejnanhgoaa
