/- Walk: what follows of an instruction flows on (step). Conditions: the checker and the program lie in memory; the program is whole. -/
import Derived.Test.YtkpdcejnanhgoaaPk14
import Derived.Test.YtkpdcejnanhgoaaPk08
import Derived.Test.YtkpdcejnanhgoaaPk09
import Derived.Test.YtkpdcejnanhgoaaPk07
import Derived.Laws.BitsLemmas
namespace Go.Proofs.Ytkpdcejnanhgoaa
open Go.RowKit
/-- what step's own variables are -/
structure SF (B : Nat) (g b : Nat) (p : Prg) (v : PV) (of : Rg) (vo vt : Value) (S : Sts) (td : List Nat) (w0 : World) (g5 g4 g2 g6 : Nat) (r : Rg) (x : Nat → Int) (A : Int × Int) (w : World) : Prop where
  ck : CK B g b p v of vo S td vt w
  wv : WV g5 g4 g2 g r x w
  sp : w.heap[g6]? = some (.cells #[.int .i64 A.1, .int .i64 A.2] 77 (0, 0))
  fr : FlowFr B w0 w
  sz : B ≤ w.heap.size
section
variable {B : Nat} {g b : Nat} {p : Prg} {v : PV} {of : Rg} {vo vt : Value} {S : Sts} {td : List Nat} {w0 : World} {g5 g4 g2 g6 : Nat} {r : Rg} {x : Nat → Int} {A : Int × Int} {w w' : World}
theorem SF.keep (h : SF B g b p v of vo vt S td w0 g5 g4 g2 g6 r x A w) (hb : Below w.heap.size w w') : SF B g b p v of vo vt S td w0 g5 g4 g2 g6 r x A w' :=
  ⟨h.ck.keep hb, h.wv.keep hb, by rw [hb.block g6 (Array.getElem?_eq_some_iff.1 h.sp).1]; exact h.sp, h.fr.trans (FlowFr.of_below hb h.sz), Nat.le_trans h.sz hb.size⟩
theorem SF.flow {vt' : Value} {S' : Sts} {td' : List Nat} (h : SF B g b p v of vo vt S td w0 g5 g4 g2 g6 r x A w) (f : FlowFr B w w') (hc : CK B g b p v of vo S' td' vt' w') : SF B g b p v of vo vt' S' td' w0 g5 g4 g2 g6 r x A w' :=
  ⟨hc, h.wv.flow f, f.keep _ _ _ _ h.sp (by decide) (by decide) (by decide), h.fr.trans f, Nat.le_trans h.sz f.bel.size⟩
theorem SF.cells (h : SF B g b p v of vo vt S td w0 g5 g4 g2 g6 r x A w) : w.cell? ⟨g6, 0, none⟩ = some (.int .i64 A.1) ∧ w.cell? ⟨g6, 1, none⟩ = some (.int .i64 A.2) ∧ w.cell? ⟨g2, 0, none⟩ = some (.pointer (some ⟨g, 0, none⟩)) ∧
    w.cell? ⟨g4, 0, none⟩ = some (.int .i64 (x 0)) ∧ w.cell? ⟨g4, 1, none⟩ = some (.int .i64 (x 1)) ∧ w.cell? ⟨g4, 2, none⟩ = some (.int .i64 (x 2)) ∧ w.cell? ⟨g4, 3, none⟩ = some (.int .i64 (x 3)) ∧ w.cell? ⟨g4, 4, none⟩ = some (.int .i64 (x 4)) :=
  ⟨by rw [cell_of_row _ _ _ _ _ _ h.sp]; rfl, by rw [cell_of_row _ _ _ _ _ _ h.sp]; rfl, h.wv.pt.cell, h.wv.ins.cell 0 (by decide), h.wv.ins.cell 1 (by decide), h.wv.ins.cell 2 (by decide), h.wv.ins.cell 3 (by decide), h.wv.ins.cell 4 (by decide)⟩
end
theorem exec_load_mid {o : Oper} {a : Act} {w : World} {b k : Nat} {r : Rg} (hs : w.rangeAt b k (rgC r)) (h8 : r.length = 8) (x : Operand) (ho : o.op = .load 79 x) (hx : a.eval x = .pointer (some ⟨b, k, none⟩)) : (execOp a.eval o).run Try.prog w = .ok (.value (rgV r)) w := by
  have r1 := run_loadVar_mid (P := Try.prog) w b k 79 (rgC r) _ hs Try.underlying79 rfl (by rw [info_vrg, rgC_len h8])
  unfold execOp
  simp only [ho, hx, Instr.loadAt, Instr.sureAddr, Sem.run_bind, Sem.run_pure, Result.andThen_ok, r1]
/-- the ranges stored whole into a block of their own -/
theorem store_rowrg {o : Oper} {a : Act} {w : World} {K : Act → World → Prop} {Q : Exit → Act → World → Prop} {z : Array Value} {g : Nat} {r : Rg} (hh : w.heap[g]? = some (.cells z 79 (0, 0))) (hz : z.size = 16) (h8 : r.length = 8) (x y : Operand) (ho : o.op = .store 79 x y)
    (hx : a.eval x = .pointer (some ⟨g, 0, none⟩)) (hy : a.eval y = rgV r) (hK : K (a.put o.dst undef) (w.setRow g (rgC r).toArray)) : o.wp Try.prog a w K Q :=
  wp_store_row _ x y ho g (rgC r).toArray hx hy 79 z hh (by rw [info_vrg]; simp [rgC_len h8]) (by rw [hz]; simp [rgC_len h8]) (all_oneCell_toArray (rgC_one r)) hK
theorem below_setRow {B : Nat} {w w' : World} (h : Below B w w') {g : Nat} (hg : B ≤ g) (xs : Array Value) : Below B w (w'.setRow g xs) :=
  ⟨h.os, h.tape, h.output, by have := h.size; simpa using this, fun k hk => by rw [setRow_other _ _ _ _ (by omega)]; exact h.block k hk⟩
theorem two_new (w : World) (o1 o2 : Obj) : ((w.alloc o1).alloc o2).heap[w.heap.size + 1]? = some o2 ∧ ((w.alloc o1).alloc o2).heap[w.heap.size]? = some o1 := by
  have h1 := Go.heap_alloc_new (w.alloc o1) o2
  rw [World.size_alloc] at h1
  exact ⟨h1, by rw [Go.heap_alloc_old _ _ (by rw [World.size_alloc]; omega)]; exact Go.heap_alloc_new _ _⟩
/-- step's variables, just laid -/
theorem new_vars {B : Nat} {g b : Nat} {p : Prg} {v : PV} {of : Rg} {vo vt : Value} {S : Sts} {td : List Nat} {w0 wa w : World} {g5 g4 g2 : Nat} {r : Rg} {x : Nat → Int} (hc : CK B g b p v of vo S td vt wa) (hf : FlowFr B w0 wa) (hp : PtBox wa g2 g) (hB : B ≤ wa.heap.size) (hb : Below wa.heap.size wa w)
    (h4 : w.heap[g4]? = some (.cells (ic x) 85 (0, 0))) (h5 : w.heap[g5]? = some (.cells (rgC r).toArray 79 (0, 0))) : CK B g b p v of vo S td vt w ∧ WV g5 g4 g2 g r x w ∧ FlowFr B w0 w ∧ B ≤ w.heap.size :=
  ⟨hc.keep hb, ⟨h5, h4, by unfold PtBox at hp ⊢; rw [hb.block g2 (Array.getElem?_eq_some_iff.1 hp).1]; exact hp⟩, hf.trans (FlowFr.of_below hb hB), Nat.le_trans hB hb.size⟩
set_option maxRecDepth 100000 in
set_option maxHeartbeats 8000000 in
theorem ver_stepA {B : Nat} {p : Prg} {v : PV} {of : Rg} {vo vt : Value} {S : Sts} {td : List Nat} {g b : Nat} (i : Nat) (x : Nat → Int) (r : Rg) (w : World) (H : CK B g b p v of vo S td vt w) (HC : RowOf icL 5 w v.vc p.code) (hx : p.code[i]? = some x) (hop5 : ¬ x 0 = 5) (hr : S.getD i none = some r) (hi : i < S.length) (hn : S.length ≤ 4096)
    (hl : goN of x r ≠ none → i + 1 < S.length) (ho : okR r) (hK : XOk of x) (h2 : 0 ≤ x 2 ∧ x 2 ≤ 1073741824) (h3 : 0 ≤ x 3 ∧ x 3 < S.length) (h4 : x 0 = 8 → 0 ≤ x 4 ∧ x 4 < of.length) (htd : td.length ≤ 1000000000) (hB : B ≤ w.heap.size) :
    Calls Try.prog 28 #[.pointer (some ⟨g, 0, none⟩), .int .i64 (i : Int)] w fun e w' => e = .returned (.tuple #[]) ∧ ∃ vt', CK B g b p v of vo (flowO (flowO (S, td) (x 3).toNat (goF x r)) (i + 1) (goN of x r)).1 (flowO (flowO (S, td) (x 3).toNat (goF x r)) (i + 1) (goN of x r)).2 vt' w' ∧ FlowFr B w w' := by
  obtain ⟨ac, cc, hvc, hcc, hmc, hcellc⟩ := HC.open icL_len
  rcases hcellc with h0 | ⟨bc, oc, rfl, hbc, hcl⟩
  · rw [List.eq_nil_of_length_eq_zero h0] at hx; simp at hx
  have hic := (List.getElem?_eq_some_iff.1 hx).1
  obtain ⟨d0, d1, d2, d3, d4⟩ := Row5p.cells hcl i hic
  rw [show p.code.getD i (fun _ => 0) = x from by rw [List.getD_eq_getElem?_getD, hx]; rfl] at d0 d1 d2 d3 d4
  have hb1 : Below w.heap.size w (w.alloc (.cells #[.pointer (some ⟨g, 0, none⟩)] 68)) := (Below.refl _ _).alloc (Nat.le_refl _) _
  have H1 := Lib.hid (H.keep hb1)
  have P1 : Hid (PtBox (w.alloc (.cells #[.pointer (some ⟨g, 0, none⟩)] 68)) w.heap.size g) := Lib.hid (Go.heap_alloc_new _ _)
  have F1 : Hid (FlowFr B w (w.alloc (.cells #[.pointer (some ⟨g, 0, none⟩)] 68))) := Lib.hid (FlowFr.of_below hb1 hB)
  have D0 := Lib.hid d0
  have D1 := Lib.hid d1
  have D2 := Lib.hid d2
  have D3 := Lib.hid d3
  have D4 := Lib.hid d4
  have Hvc := Lib.hid hvc
  have H5 := Lib.hid hop5
  clear hop5
  have Hic := Lib.hid hic
  have Hr := Lib.hid hr
  have Hi := Lib.hid hi
  have HL := Lib.hid hl
  have HO := Lib.hid ho
  have HK := Lib.hid hK
  have H2 := Lib.hid h2
  have H3 := Lib.hid h3
  have H4 := Lib.hid h4
  have Hbc := Lib.hid hbc
  clear hb1 hvc hcc hmc hcl H HC hr hi hl ho hK h2 h3 h4 d0 d1 d2 d3 d4 hx hic
  go_enter Try.func28, Try.ntmps28
  repeat' (go_not_at_region 1; first | go_values | go_skip | go_guarded | go_step | go_upon)
  obtain ⟨g2, hg2⟩ : ∃ y, y = w.heap.size := ⟨_, rfl⟩
  rw [← hg2] at P1 ⊢
  have Hg2 : Hid (w.heap.size ≤ g2) := Lib.hid (by omega)
  clear hg2
  refine gen_wd (fun w' => CK B g b p v of vo S td vt w' ∧ FlowFr B w w' ∧ PtBox w' g2 g ∧ B ≤ w'.heap.size ∧ Below w.heap.size w w') ⟨H1.out, F1.out, P1.out, by rw [World.size_alloc]; omega, (Below.refl _ _).alloc (Nat.le_refl _) _⟩ ?_
  clear H1 F1 P1
  rintro wa ⟨j1, j2, j3, j4, j5⟩
  have J1 := Lib.hid j1
  have J2 := Lib.hid j2
  have J3 := Lib.hid j3
  have J4 := Lib.hid j4
  have J5 := Lib.hid j5
  clear j1 j2 j3 j4 j5
  have e0 : ∀ nq : WB wa, nq.1.cell? ⟨g2, 0, none⟩ = some (.pointer (some ⟨g, 0, none⟩)) := fun nq => by rw [nq.2.cell (show g2 < wa.heap.size from (Array.getElem?_eq_some_iff.1 J3.out).1)]; exact J3.out.cell
  have e1 : ∀ nq : WB wa, nq.1.cell? ⟨g, 4, none⟩ = some (.slice (some ⟨bc, oc, none⟩) p.code.length cc) := fun nq => by rw [← Hvc.out]; exact (J1.out.keep nq.2).ck.cell 4
  have e2 : ∀ nq : WB wa, nq.1.cell? ⟨g, 10, none⟩ = some (.slice (some ⟨b, 0, none⟩) S.length S.length) := fun nq => (J1.out.keep nq.2).ck.cell 10
  have hbw : ∀ (nq : WB wa) o, nq.1.cell? ⟨bc, o, none⟩ = w.cell? ⟨bc, o, none⟩ := fun nq o => by
    rw [nq.2.cell (show bc < wa.heap.size from Nat.lt_of_lt_of_le Hbc.out J5.out.size), J5.out.cell (show bc < w.heap.size from Hbc.out)]
  have e3 : ∀ nq : WB wa, nq.1.cell? ⟨bc, oc + i * 5, none⟩ = some (.int .i64 (x 0)) := fun nq => by rw [hbw]; exact D0.out
  have e4 : ∀ nq : WB wa, nq.1.cell? ⟨bc, oc + i * 5 + 1, none⟩ = some (.int .i64 (x 1)) := fun nq => by rw [hbw]; exact D1.out
  have e5 : ∀ nq : WB wa, nq.1.cell? ⟨bc, oc + i * 5 + 2, none⟩ = some (.int .i64 (x 2)) := fun nq => by rw [hbw]; exact D2.out
  have e6 : ∀ nq : WB wa, nq.1.cell? ⟨bc, oc + i * 5 + 3, none⟩ = some (.int .i64 (x 3)) := fun nq => by rw [hbw]; exact D3.out
  have e7 : ∀ nq : WB wa, nq.1.cell? ⟨bc, oc + i * 5 + 4, none⟩ = some (.int .i64 (x 4)) := fun nq => by rw [hbw]; exact D4.out
  clear hbw
  have i1 : (i : Int) < (p.code.length : Int) := by have := Hic.out; omega
  have i2 : (i : Int) < (S.length : Int) := by have := Hi.out; omega
  go_cut [4, 5] from 9 to 179 (fun s4 s5 wc => ∃ g4 g5 : Nat, s4 = .pointer (some ⟨g4, 0, none⟩) ∧ s5 = .pointer (some ⟨g5, 0, none⟩) ∧ Hid (CK B g b p v of vo S td vt wc ∧ WV g5 g4 g2 g r x wc ∧ FlowFr B w wc ∧ B ≤ wc.heap.size))
  case first =>
    refine wp_region_anyC (by kernel_rfl) wa ?_
    refine tkC 0 rfl ?_
    refine tkC 1 rfl ?_
    refine tkC 2 rfl ?_
    refine tkC 3 rfl ?_
    refine tkC 4 rfl ?_
    refine tkC 5 rfl ?_
    refine tkC 6 rfl ?_
    refine tkC 7 rfl ?_
    refine tkC 8 rfl ?_
    refine tkC 9 rfl ?_
    refine tkC 10 rfl ?_
    refine tkC 11 rfl ?_
    refine tkC 12 rfl ?_
    refine tkC 13 rfl ?_
    refine tkC 14 rfl ?_
    refine wpAnyC_take (i := 15) (v := _) rfl (by kernel_rfl) (by kernel_rfl) (by kernel_rfl) (fun _ _ _ h => h) (Or.inl ⟨by rfl, fun w ⟨nq, hw⟩ => by (subst hw; exact exec_load_mid (by have h := (J1.out.keep nq.2).sts.regs i Hi.out; rw [Hr.out] at h; exact h) HO.out.1 _ rfl rfl)⟩) (by go_simp <;> with_reducible rfl) ?_
    refine wpAnyC_ready (CW.of ((Below.refl _ _).drew)) (rs := [16, 17]) (by kernel_rfl) (by simp) ?_
    refine (AllReadyC.cons rfl (fun K hK => ?_) (AllReadyC.cons rfl (fun K hK => ?_) AllReadyC.nil))
    focus
      go_simp
      refine hK _ _ ?_
      clear hK K
      refine wpAnyC_ready (CW.of (((Below.refl _ _).drew).alloc (by simp) _)) (rs := [17]) (by kernel_rfl) (by simp) ?_
      refine (AllReadyC.cons rfl (fun K hK => ?_) AllReadyC.nil)
      go_simp
      refine hK _ _ ?_
      clear hK K
      refine wpAnyC_ready (CW.of ((((Below.refl _ _).drew).alloc (by simp) _).alloc (by simp) _)) (rs := [18]) (by kernel_rfl) (by simp) ?_
      refine (AllReadyC.cons rfl (fun K hK => ?_) AllReadyC.nil)
      go_simp
      refine hK _ _ ?_
      clear hK K
      refine wpAnyC_ready (CW.of ((((Below.refl _ _).alloc (Nat.le_refl _) _).alloc (by simp) _).drew)) (rs := [19]) (by kernel_rfl) (by simp) ?_
      refine (AllReadyC.cons rfl (fun K hK => ?_) AllReadyC.nil)
      refine step_of rfl (store_rowrg (two_new wa _ _).1 rfl HO.out.1 _ _ rfl rfl rfl ?_)
      refine hK _ _ ?_
      clear hK K
      refine wpAnyC_done (by kernel_rfl) (CW.of (below_setRow ((((Below.refl _ _).alloc (Nat.le_refl _) _).alloc (by simp) _).drew) (by simp) _)) (by go_simp <;> with_reducible rfl) ?_
      repeat' (first | go_values | go_skip | go_guarded | go_step | go_upon)
      go_meet
      case rel => exact ⟨_, _, rfl, rfl, Lib.hid (new_vars J1.out J2.out J3.out J4.out (below_setRow ((((Below.refl _ _).alloc (Nat.le_refl _) _).alloc (by simp) _).drew) (by simp) _) (by rw [setRow_other _ _ _ _ (by omega)]; exact (two_new wa _ _).2) (setRow_heap _ _ _ _ _ _ (two_new wa _ _).1))⟩
    focus
      go_simp
      refine hK _ _ ?_
      clear hK K
      refine wpAnyC_ready (CW.of (((Below.refl _ _).drew).alloc (by simp) _)) (rs := [16]) (by kernel_rfl) (by simp) ?_
      refine (AllReadyC.cons rfl (fun K hK => ?_) AllReadyC.nil)
      go_simp
      refine hK _ _ ?_
      clear hK K
      refine wpAnyC_ready (CW.of ((((Below.refl _ _).drew).alloc (by simp) _).alloc (by simp) _)) (rs := [18]) (by kernel_rfl) (by simp) ?_
      refine (AllReadyC.cons rfl (fun K hK => ?_) AllReadyC.nil)
      go_simp
      refine hK _ _ ?_
      clear hK K
      refine wpAnyC_ready (CW.of ((((Below.refl _ _).alloc (Nat.le_refl _) _).alloc (by simp) _).drew)) (rs := [19]) (by kernel_rfl) (by simp) ?_
      refine (AllReadyC.cons rfl (fun K hK => ?_) AllReadyC.nil)
      refine step_of rfl (store_rowrg (two_new wa _ _).2 rfl HO.out.1 _ _ rfl rfl rfl ?_)
      refine hK _ _ ?_
      clear hK K
      refine wpAnyC_done (by kernel_rfl) (CW.of (below_setRow ((((Below.refl _ _).alloc (Nat.le_refl _) _).alloc (by simp) _).drew) (by simp) _)) (by go_simp <;> with_reducible rfl) ?_
      repeat' (first | go_values | go_skip | go_guarded | go_step | go_upon)
      go_meet
      case rel => exact ⟨_, _, rfl, rfl, Lib.hid (new_vars J1.out J2.out J3.out J4.out (below_setRow ((((Below.refl _ _).alloc (Nat.le_refl _) _).alloc (by simp) _).drew) (by simp) _) (by rw [setRow_other _ _ _ _ (by omega)]; exact (two_new wa _ _).1) (setRow_heap _ _ _ _ _ _ (two_new wa _ _).2))⟩
  case rest =>
    obtain ⟨g4, g5, rfl, rfl, hcut⟩ := hcut
    clear e0 e1 e2 e3 e4 e5 e6 e7 J1 J2 J3 J4 J5 D0 D1 D2 D3 D4 Hvc Hbc i1 i2
    obtain ⟨ka, hka⟩ : ∃ k : Nat, x 1 = (k : Int) := ⟨(x 1).toNat, by have := HK.out.a; omega⟩
    have hka8 : ka < 8 := by have := HK.out.a; omega
    have c1 : wc.cell? ⟨g4, 1, none⟩ = some (.int .i64 (ka : Int)) := by rw [← hka]; exact hcut.out.2.1.ins.cell 1 (by decide)
    have c2 := (hcut.out.2.1.rb.two HO.out.1 hka8).1
    have c3 := (hcut.out.2.1.rb.two HO.out.1 hka8).2
    have hka8' : (ka : Int) < 8 := by omega
    have Hka := Lib.hid hka
    clear hka
    repeat' (go_not_at_region 3; first | go_values | go_skip | go_guarded | go_step | go_upon)
    obtain ⟨A, hA⟩ : ∃ A, A = rget r ka := ⟨_, rfl⟩
    have HA : Hid (rA x r = A) := Lib.hid (by rw [hA]; unfold rA; rw [Hka.out]; rfl)
    have HAo : okS A := by rw [hA]; exact HO.out.get hka8
    have hA1 : 0 ≤ A.1 ∧ A.1 ≤ A.2 ∧ A.2 ≤ 1073741824 := HAo
    rw [← hA]
    clear hA HAo
    have hb1 : Below wc.heap.size wc (wc.alloc (.cells #[.int .i64 A.1, .int .i64 A.2] 77)) := (Below.refl _ _).alloc (Nat.le_refl _) _
    obtain ⟨g6, hg6⟩ : ∃ y, y = wc.heap.size := ⟨_, rfl⟩
    have H6 : Hid ((wc.alloc (.cells #[.int .i64 A.1, .int .i64 A.2] 77)).heap[g6]? = some (.cells #[.int .i64 A.1, .int .i64 A.2] 77 (0, 0))) := Lib.hid (by rw [hg6]; exact Go.heap_alloc_new _ _)
    rw [← hg6]
    clear hg6
    refine gen_wd (SF B g b p v of vo vt S td w g5 g4 g2 g6 r x A) ⟨hcut.out.1.keep hb1, hcut.out.2.1.keep hb1, H6.out, hcut.out.2.2.1.trans (FlowFr.of_below hb1 hcut.out.2.2.2), by rw [World.size_alloc]; have := hcut.out.2.2.2; omega⟩ ?_
    clear c1 c2 c3 hb1 H6 hcut
    intro ws hs
    have HS := Lib.hid hs
    clear hs
    have H8 : Hid (r.length = 8) := Lib.hid HO.out.1
    obtain ⟨kc, hkc⟩ : ∃ k : Nat, x 3 = (k : Int) := ⟨(x 3).toNat, by have := H3.out; omega⟩
    have Hkc : Hid (kc < S.length) := Lib.hid (by have := H3.out; omega)
    have e3 : Hid ((x 3).toNat = ((kc : Int)).toNat) := Lib.hid (by omega)
    have i3 : (i : Int) < 4096 := by have := Hi.out; omega
    have ei : Hid (((i : Int) + 1).toNat = i + 1) := Lib.hid (by omega)
    have hx2 : 0 ≤ x 2 ∧ x 2 ≤ 1073741824 := H2.out
    have Htd := Lib.hid htd
    have HkcE := Lib.hid hkc
    clear hkc htd
    have hset : Hid (∀ u, sA x r u = r.set ka u) := Lib.hid fun u => by unfold sA; rw [Hka.out]; rfl
    obtain ⟨s0, s1, s2, q0, q1, q2, q3, q4⟩ := HS.out.cells
    rw [Hka.out] at q1
    rw [HkcE.out] at q3
    have Hl : Hid (goN of x r ≠ none → (0 : Int) ≤ (i : Int) + 1 ∧ (i : Int) + 1 < S.length) := Lib.hid fun h => by have := HL.out h; omega
    by_cases hop : x 0 = 1
    · have hF : Hid (goF x r = none) := Lib.hid (by unfold goF ifIn; first | (simp [hop]; done) | (simp [hop, hset.out]; done) | (simp [hop, HA.out]; done) | (simp [hop, hset.out, HA.out]; done))
      have hN : Hid (goN of x r = none) := Lib.hid (by unfold goN ifIn; first | (simp [hop]; done) | (simp [hop, hset.out]; done) | (simp [hop, HA.out]; done) | (simp [hop, hset.out, HA.out]; done))
      rw [hop] at q0
      have Hop := Lib.hid hop
      clear hop
      repeat' (first | go_values | go_skip | go_guarded | go_step | go_upon)
      go_end0
      refine ⟨rfl, vt, ?_, HS.out.fr⟩
      rw [hF.out, hN.out]
      exact HS.out.ck
    have hop1 := hop
    clear hop
    by_cases hop : x 0 = 2
    · have hF : Hid (goF x r = none) := Lib.hid (by unfold goF ifIn; first | (simp [hop]; done) | (simp [hop, hset.out]; done) | (simp [hop, HA.out]; done) | (simp [hop, hset.out, HA.out]; done))
      have hN : Hid (goN of x r = ifIn (x 2 ≤ x 2) (r.set ka (x 2, x 2))) := Lib.hid (by unfold goN ifIn; first | (simp [hop]; done) | (simp [hop, hset.out]; done) | (simp [hop, HA.out]; done) | (simp [hop, hset.out, HA.out]; done))
      have hn0 : goN of x r ≠ none := by first | (simp [hN.out]; done) | (simp [hN.out, ifIn]; done)
      have Hh := Lib.hid (Hl.out hn0)
      clear hn0
      rw [hop] at q0
      have Hop := Lib.hid hop
      clear hop
      repeat' (first | (go_at_call 45; have HW := Lib.hid (ver_withP (S, td) ((i : Int) + 1) (x 2, x 2) ka _ HS.out.ck HS.out.wv Hka.out hka8 (fun _ => Hh.out) H8.out (by have := Htd.out; dsimp only; omega) HS.out.sz); refine Calls.mono HW.out ?_; clear HW; rintro _ we ⟨rfl, vt1, hc1, hf1⟩; dsimp only) | go_values | go_skip | go_guarded | go_step | go_upon)
      go_end0
      refine ⟨rfl, vt1, ?_, HS.out.fr.trans hf1⟩
      rw [hF.out, hN.out, ← ei.out]
      exact hc1
    have hop2 := hop
    clear hop
    by_cases hop : x 0 = 4
    · have hF : Hid (goF x r = some r) := Lib.hid (by unfold goF ifIn; first | (simp [hop]; done) | (simp [hop, hset.out]; done) | (simp [hop, HA.out]; done) | (simp [hop, hset.out, HA.out]; done))
      have hN : Hid (goN of x r = none) := Lib.hid (by unfold goN ifIn; first | (simp [hop]; done) | (simp [hop, hset.out]; done) | (simp [hop, HA.out]; done) | (simp [hop, hset.out, HA.out]; done))
      rw [hop] at q0
      have Hop := Lib.hid hop
      clear hop
      repeat' (first | (with_reducible refine load_rg HS.out.wv.rb H8.out _ rfl rfl ?_) | (go_at_call 27; have HW := Lib.hid (ver_flowP (S, td) ((kc : Int)) r _ HS.out.ck (by have := Hkc.out; dsimp only; omega) H8.out (by have := Htd.out; dsimp only; omega) HS.out.sz); refine Calls.mono HW.out ?_; clear HW; rintro _ we ⟨rfl, vt1, hc1, hf1⟩; dsimp only) | go_values | go_skip | go_guarded | go_step | go_upon)
      go_end0
      refine ⟨rfl, vt1, ?_, HS.out.fr.trans hf1⟩
      rw [hF.out, hN.out, e3.out]
      exact hc1
    have hop4 := hop
    clear hop
    by_cases hop : x 0 = 7
    · have hF : Hid (goF x r = some r) := Lib.hid (by unfold goF ifIn; first | (simp [hop]; done) | (simp [hop, hset.out]; done) | (simp [hop, HA.out]; done) | (simp [hop, hset.out, HA.out]; done))
      have hN : Hid (goN of x r = ifIn ((0 : Int) ≤ 255) (r.set ka (0, 255))) := Lib.hid (by unfold goN ifIn; first | (simp [hop]; done) | (simp [hop, hset.out]; done) | (simp [hop, HA.out]; done) | (simp [hop, hset.out, HA.out]; done))
      have hn0 : goN of x r ≠ none := by first | (simp [hN.out]; done) | (simp [hN.out, ifIn]; done)
      have Hh := Lib.hid (Hl.out hn0)
      clear hn0
      rw [hop] at q0
      have Hop := Lib.hid hop
      clear hop
      repeat' (first | (with_reducible refine load_rg HS.out.wv.rb H8.out _ rfl rfl ?_) | (go_at_call 27; have HW := Lib.hid (ver_flowP (S, td) ((kc : Int)) r _ HS.out.ck (by have := Hkc.out; dsimp only; omega) H8.out (by have := Htd.out; dsimp only; omega) HS.out.sz); refine Calls.mono HW.out ?_; clear HW; rintro _ we ⟨rfl, vt1, hc1, hf1⟩; dsimp only; have HS2 := Lib.hid (HS.out.flow hf1 hc1); clear HS hc1 hf1 s0 s1 s2 q0 q1 q2 q3 q4; obtain ⟨s0, s1, s2, q0, q1, q2, q3, q4⟩ := HS2.out.cells; rw [Hop.out] at q0; rw [Hka.out] at q1; rw [HkcE.out] at q3) | (go_at_call 45; have HW := Lib.hid (ver_withP (flowO (S, td) ((kc : Int)).toNat (some r)) ((i : Int) + 1) (0, 255) ka _ HS2.out.ck HS2.out.wv Hka.out hka8 (fun _ => by rw [(flowO_len (S := S) (td := td) (k := ((kc : Int)).toNat) (o := some r)).1]; exact Hh.out) H8.out (by have h1 := (flowO_len (S := S) (td := td) (k := ((kc : Int)).toNat) (o := some r)).2; have := Htd.out; omega) HS2.out.sz); refine Calls.mono HW.out ?_; clear HW; rintro _ we2 ⟨rfl, vt2, hc2, hf2⟩; dsimp only) | go_values | go_skip | go_guarded | go_step | go_upon)
      go_end0
      refine ⟨rfl, vt2, ?_, HS2.out.fr.trans hf2⟩
      rw [hF.out, hN.out, e3.out, ← ei.out]
      exact hc2
    have hop7 := hop
    clear hop
    by_cases hop : x 0 = 11
    · have hF : Hid (goF x r = some r) := Lib.hid (by unfold goF ifIn; first | (simp [hop]; done) | (simp [hop, hset.out]; done) | (simp [hop, HA.out]; done) | (simp [hop, hset.out, HA.out]; done))
      have hN : Hid (goN of x r = some r) := Lib.hid (by unfold goN ifIn; first | (simp [hop]; done) | (simp [hop, hset.out]; done) | (simp [hop, HA.out]; done) | (simp [hop, hset.out, HA.out]; done))
      have hn0 : goN of x r ≠ none := by first | (simp [hN.out]; done) | (simp [hN.out, ifIn]; done)
      have Hh := Lib.hid (Hl.out hn0)
      clear hn0
      rw [hop] at q0
      have Hop := Lib.hid hop
      clear hop
      repeat' (first | (with_reducible refine load_rg HS.out.wv.rb H8.out _ rfl rfl ?_) | (with_reducible refine load_rg HS2.out.wv.rb H8.out _ rfl rfl ?_) | (go_at_call 27; have HW := Lib.hid (ver_flowP (S, td) ((kc : Int)) r _ HS.out.ck (by have := Hkc.out; dsimp only; omega) H8.out (by have := Htd.out; dsimp only; omega) HS.out.sz); refine Calls.mono HW.out ?_; clear HW; rintro _ we ⟨rfl, vt1, hc1, hf1⟩; dsimp only; have HS2 := Lib.hid (HS.out.flow hf1 hc1); clear HS hc1 hf1 s0 s1 s2 q0 q1 q2 q3 q4; obtain ⟨s0, s1, s2, q0, q1, q2, q3, q4⟩ := HS2.out.cells; rw [Hop.out] at q0; rw [Hka.out] at q1; rw [HkcE.out] at q3) | (go_at_call 27; have HW := Lib.hid (ver_flowP (flowO (S, td) ((kc : Int)).toNat (some r)) ((i : Int) + 1) r _ HS2.out.ck (by rw [(flowO_len (S := S) (td := td) (k := ((kc : Int)).toNat) (o := some r)).1]; exact Hh.out) H8.out (by have h1 := (flowO_len (S := S) (td := td) (k := ((kc : Int)).toNat) (o := some r)).2; have := Htd.out; omega) HS2.out.sz); refine Calls.mono HW.out ?_; clear HW; rintro _ we2 ⟨rfl, vt2, hc2, hf2⟩; dsimp only) | go_values | go_skip | go_guarded | go_step | go_upon)
      go_end0
      refine ⟨rfl, vt2, ?_, HS2.out.fr.trans hf2⟩
      rw [hF.out, hN.out, e3.out, ← ei.out]
      exact hc2
    have hop11 := hop
    clear hop
    by_cases hop : x 0 = 3
    · obtain ⟨kb, hkb⟩ : ∃ k : Nat, x 2 = (k : Int) := ⟨(x 2).toNat, by have := HK.out.m hop; omega⟩
      have hkb8 : kb < 8 := by have := HK.out.m hop; omega
      obtain ⟨U, hU⟩ : ∃ U, U = rget r kb := ⟨_, rfl⟩
      have hUo : okS U := by rw [hU]; exact HO.out.get hkb8
      have hU1 : U.1 ≤ U.2 := hUo.2.1
      have hF : Hid (goF x r = none) := Lib.hid (by unfold goF; simp [hop])
      have hN : Hid (goN of x r = ifIn (U.1 ≤ U.2) (r.set ka U)) := Lib.hid (by unfold goN ifIn; rw [if_pos hU1]; simp [hop, hset.out, hkb, hU])
      have hn0 : goN of x r ≠ none := by unfold goN; simp [hop]
      have Hh := Lib.hid (Hl.out hn0)
      have c2 := (HS.out.wv.rb.two H8.out hkb8).1
      have c3 := (HS.out.wv.rb.two H8.out hkb8).2
      rw [← hU] at c2 c3
      have hkb8' : (kb : Int) < 8 := by omega
      rw [hkb] at q2
      rw [hop] at q0
      clear hop hn0 hU hUo hkb hx2
      repeat' (first | (go_at_call 45; have HW := Lib.hid (ver_withP (S, td) ((i : Int) + 1) U ka _ HS.out.ck HS.out.wv Hka.out hka8 (fun _ => Hh.out) H8.out (by have := Htd.out; dsimp only; omega) HS.out.sz); refine Calls.mono HW.out ?_; clear HW; rintro _ we ⟨rfl, vt1, hc1, hf1⟩; dsimp only) | go_values | go_skip | go_guarded | go_step | go_upon)
      go_end0
      refine ⟨rfl, vt1, ?_, HS.out.fr.trans hf1⟩
      rw [hF.out, hN.out, ← ei.out]
      exact hc1
    have hop3 := hop
    clear hop
    by_cases hop : x 0 = 6
    · have e1 : (if x 2 - 1 < A.2 then x 2 - 1 else A.2) = min A.2 (x 2 - 1) := by split <;> omega
      have e2 : (if A.1 < x 2 then x 2 else A.1) = max A.1 (x 2) := by split <;> omega
      have hF : Hid (goF x r = ifIn (A.1 ≤ (if x 2 - 1 < A.2 then x 2 - 1 else A.2)) (r.set ka (A.1, (if x 2 - 1 < A.2 then x 2 - 1 else A.2)))) := Lib.hid (by rw [e1]; unfold goF; first | (simp [hop]; done) | (simp [hop, hset.out]; done) | (simp [hop, HA.out]; done) | (simp [hop, hset.out, HA.out]; done))
      have hN : Hid (goN of x r = ifIn ((if A.1 < x 2 then x 2 else A.1) ≤ A.2) (r.set ka ((if A.1 < x 2 then x 2 else A.1), A.2))) := Lib.hid (by rw [e2]; unfold goN; first | (simp [hop]; done) | (simp [hop, hset.out]; done) | (simp [hop, HA.out]; done) | (simp [hop, hset.out, HA.out]; done))
      have Hh : Hid ((if A.1 < x 2 then x 2 else A.1) ≤ A.2 → (0 : Int) ≤ (i : Int) + 1 ∧ (i : Int) + 1 < S.length) := Lib.hid fun h => Hl.out (by rw [hN.out]; unfold ifIn; rw [if_pos h]; simp)
      rw [hop] at q0
      have Hop := Lib.hid hop
      clear hop e1 e2
      repeat' (first | (go_at_call 45; have HW := Lib.hid (ver_withP (S, td) ((kc : Int)) (A.1, (if x 2 - 1 < A.2 then x 2 - 1 else A.2)) ka _ HS.out.ck HS.out.wv Hka.out hka8 (fun _ => by have := Hkc.out; dsimp only; omega) H8.out (by have := Htd.out; dsimp only; omega) HS.out.sz); refine Calls.mono HW.out ?_; clear HW; rintro _ we ⟨rfl, vt1, hc1, hf1⟩; dsimp only; have HS2 := Lib.hid (HS.out.flow hf1 hc1); clear HS hc1 hf1 s0 s1 s2 q0 q1 q2 q3 q4; obtain ⟨s0, s1, s2, q0, q1, q2, q3, q4⟩ := HS2.out.cells; rw [Hop.out] at q0; rw [Hka.out] at q1; rw [HkcE.out] at q3) | (go_at_call 45; have HW := Lib.hid (ver_withP (flowO (S, td) ((kc : Int)).toNat (ifIn (A.1 ≤ (if x 2 - 1 < A.2 then x 2 - 1 else A.2)) (r.set ka (A.1, (if x 2 - 1 < A.2 then x 2 - 1 else A.2))))) ((i : Int) + 1) ((if A.1 < x 2 then x 2 else A.1), A.2) ka _ HS2.out.ck HS2.out.wv Hka.out hka8 (fun h => by rw [(flowO_len (S := S) (td := td) (k := ((kc : Int)).toNat) (o := (ifIn (A.1 ≤ (if x 2 - 1 < A.2 then x 2 - 1 else A.2)) (r.set ka (A.1, (if x 2 - 1 < A.2 then x 2 - 1 else A.2)))))).1]; exact Hh.out h) H8.out (by have h1 := (flowO_len (S := S) (td := td) (k := ((kc : Int)).toNat) (o := (ifIn (A.1 ≤ (if x 2 - 1 < A.2 then x 2 - 1 else A.2)) (r.set ka (A.1, (if x 2 - 1 < A.2 then x 2 - 1 else A.2)))))).2; have := Htd.out; omega) HS2.out.sz); refine Calls.mono HW.out ?_; clear HW; rintro _ we2 ⟨rfl, vt2, hc2, hf2⟩; dsimp only) | go_values | go_skip | go_guarded | go_step | go_upon)
      go_end0
      refine ⟨rfl, vt2, ?_, HS2.out.fr.trans hf2⟩
      rw [hF.out, hN.out, e3.out, ← ei.out]
      exact hc2
    have hop6 := hop
    clear hop
    by_cases hop : x 0 = 8
    · obtain ⟨kd, hkd⟩ : ∃ k : Nat, x 4 = (k : Int) := ⟨(x 4).toNat, by have := H4.out hop; omega⟩
      have hkd8 : kd < of.length := by have := H4.out hop; omega
      obtain ⟨U, hU⟩ : ∃ U, U = of.getD kd (0, 0) := ⟨_, rfl⟩
      have hUo : okS U := by have := HK.out.t hop; rw [hkd] at this; rw [hU]; exact this
      have hU1 : U.1 ≤ U.2 := hUo.2.1
      have hF : Hid (goF x r = none) := Lib.hid (by unfold goF; simp [hop])
      have hN : Hid (goN of x r = ifIn (U.1 ≤ U.2) (r.set ka U)) := Lib.hid (by unfold goN ifIn; rw [if_pos hU1]; simp [hop, hset.out, hkd, hU])
      have hn0 : goN of x r ≠ none := by unfold goN; simp [hop]
      have Hh := Lib.hid (Hl.out hn0)
      have hof : of[kd]? = some U := by rw [hU, List.getD_eq_getElem?_getD, List.getElem?_eq_getElem hkd8]; rfl
      obtain ⟨go, co, hvo⟩ := HS.out.ck.of.somewhere (by omega)
      subst hvo
      have u0 := HS.out.ck.of.cellAt spC_len kd U 0 hof (by decide)
      have u1 := HS.out.ck.of.cellAt spC_len kd U 1 hof (by decide)
      have hgo := (HS.out.ck.of.below (g := go) rfl).2
      have e0 : ∀ nq : WB ws, nq.1.cell? ⟨g2, 0, none⟩ = some (.pointer (some ⟨g, 0, none⟩)) := fun nq => (HS.out.keep nq.2).wv.pt.cell
      have e1 : ∀ nq : WB ws, nq.1.cell? ⟨g, 12, none⟩ = some (.slice (some ⟨go, 0, none⟩) of.length co) := fun nq => (HS.out.keep nq.2).ck.ck.cell 12
      have e2 : ∀ nq : WB ws, nq.1.cell? ⟨g4, 4, none⟩ = some (.int .i64 (kd : Int)) := fun nq => by rw [← hkd]; exact (HS.out.keep nq.2).wv.ins.cell 4 (by decide)
      have e5 : ∀ nq : WB ws, nq.1.cell? ⟨go, kd * 2, none⟩ = some (.int .i64 U.1) := fun nq => by rw [nq.2.cell (by exact hgo)]; exact u0
      have e6 : ∀ nq : WB ws, nq.1.cell? ⟨go, kd * 2 + 1, none⟩ = some (.int .i64 U.2) := fun nq => by rw [nq.2.cell (by exact hgo)]; exact u1
      have hkd8' : (kd : Int) < of.length := by omega
      rw [hop] at q0
      clear hop hn0 hU hUo hkd hof u0 u1 hgo q4
      repeat' (go_not_at_region 29; first | go_values | go_skip | go_guarded | go_step | go_upon)
      refine wp_region_tail 11 (by kernel_rfl) (by kernel_rfl) ws (Below.refl _ _) ?_
      simp only [List.take_succ_cons, List.take_zero, List.drop_succ_cons, List.drop_zero]
      repeat (go_big_quiet_step ((fail)))
      refine wpQuiet_nil ?_
      rintro _ ⟨nq, rfl⟩
      have hnq := nq.2
      have HSn := Lib.hid (HS.out.keep hnq)
      clear HS e0 e1 e2 e5 e6
      repeat' (first | (go_at_call 45; have HW := Lib.hid (ver_withP (S, td) ((i : Int) + 1) U ka _ HSn.out.ck HSn.out.wv Hka.out hka8 (fun _ => Hh.out) H8.out (by have := Htd.out; dsimp only; omega) HSn.out.sz); refine Calls.mono HW.out ?_; clear HW; rintro _ we ⟨rfl, vt1, hc1, hf1⟩; dsimp only) | go_values | go_skip | go_guarded | go_step | go_upon)
      go_end0
      refine ⟨rfl, vt1, ?_, HSn.out.fr.trans hf1⟩
      rw [hF.out, hN.out, ← ei.out]
      exact hc1
    have hop8 := hop
    clear hop
    have hop5 := H5.out
    have hF : Hid (goF x r = none) := Lib.hid (by unfold goF; simp [hop4, hop5, hop6, hop7, hop11])
    have hN : Hid (goN of x r = some r) := Lib.hid (by unfold goN; simp [hop1, hop2, hop3, hop4, hop5, hop6, hop7, hop8])
    have hn0 : goN of x r ≠ none := by simp [hN.out]
    have Hh := Lib.hid (Hl.out hn0)
    have t1 : (x 0 == 1) = false := by simpa using hop1
    have t2 : (x 0 == 2) = false := by simpa using hop2
    have t3 : (x 0 == 3) = false := by simpa using hop3
    have t4 : (x 0 == 4) = false := by simpa using hop4
    have t5 : (x 0 == 5) = false := by simpa using hop5
    have t6 : (x 0 == 6) = false := by simpa using hop6
    have t7 : (x 0 == 7) = false := by simpa using hop7
    have t8 : (x 0 == 8) = false := by simpa using hop8
    have t11 : (x 0 == 11) = false := by simpa using hop11
    clear hn0 hop1 hop2 hop3 hop4 hop5 hop6 hop7 hop8 hop11
    repeat' (first | (with_reducible refine load_rg HS.out.wv.rb H8.out _ rfl rfl ?_) | (go_at_call 27; have HW := Lib.hid (ver_flowP (S, td) ((i : Int) + 1) r _ HS.out.ck Hh.out H8.out (by have := Htd.out; dsimp only; omega) HS.out.sz); refine Calls.mono HW.out ?_; clear HW; rintro _ we ⟨rfl, vt1, hc1, hf1⟩; dsimp only) | go_values | go_skip | go_guarded | go_step | go_upon)
    go_end0
    refine ⟨rfl, vt1, ?_, HS.out.fr.trans hf1⟩
    rw [hF.out, hN.out, ← ei.out]
    exact hc1
end Go.Proofs.Ytkpdcejnanhgoaa
/- Walk: do ranges show that an instruction does not fault (safe). Conditions: the checker lies in memory, the program is whole. -/
namespace Go.Proofs.Ytkpdcejnanhgoaa
open Go.RowKit
theorem i64_and7 (n : Int) : bits .and .i64 n 7 = n % 8 := by
  have h7 : (BitVec.ofInt 64 7).toNat = 2 ^ 3 - 1 := by decide
  have key : (BitVec.ofInt 64 n &&& BitVec.ofInt 64 7).toNat = (n % ((2 ^ 64 : Nat) : Int)).toNat % 2 ^ 3 := by
    rw [BitVec.toNat_and, BitVec.toNat_ofInt, h7, Nat.and_two_pow_sub_one_eq_mod]
  show IntKind.i64.wrap ((BitVec.ofInt 64 n &&& BitVec.ofInt 64 7).toNat : Nat) = n % 8
  rw [key, IntKind.wrap_i64]
  omega
/-- a range in a variable -/
def VSp (w : World) (g : Nat) (u : Int × Int) : Prop := w.heap[g]? = some (.cells #[.int .i64 u.1, .int .i64 u.2] 77 (0, 0))
theorem VSp.keep {w w' : World} {g : Nat} {u : Int × Int} (h : VSp w g u) (hb : Below w.heap.size w w') : VSp w' g u := by
  unfold VSp; rw [hb.block g (Array.getElem?_eq_some_iff.1 h).1]; exact h
theorem VSp.two {w : World} {g : Nat} {u : Int × Int} (h : VSp w g u) : w.cell? ⟨g, 0, none⟩ = some (.int .i64 u.1) ∧ w.cell? ⟨g, 1, none⟩ = some (.int .i64 u.2) :=
  ⟨by rw [cell_of_row _ _ _ _ _ _ h]; rfl, by rw [cell_of_row _ _ _ _ _ _ h]; rfl⟩
/-- safe's variables -/
structure SV (w0 : World) (g b n : Nat) (p : Prg) (v : PV) (vt vo : Value) (g4 g7 g8 : Nat) (x : Nat → Int) (A B : Int × Int) (w : World) : Prop where
  bel : Below w0.heap.size w0 w
  ck : CkAt w g p v b n vt vo
  ins : InsAt w g4 x
  s7 : VSp w g7 A
  s8 : VSp w g8 B
theorem SV.keep {w0 w w' : World} {g b n : Nat} {p : Prg} {v : PV} {vt vo : Value} {g4 g7 g8 : Nat} {x : Nat → Int} {A B : Int × Int} (h : SV w0 g b n p v vt vo g4 g7 g8 x A B w) (hb : Below w.heap.size w w') : SV w0 g b n p v vt vo g4 g7 g8 x A B w' :=
  ⟨h.bel.trans (hb.mono h.bel.size), h.ck.of_heap (hb.block g h.ck.lt), h.ins.keep hb, h.s7.keep hb, h.s8.keep hb⟩
set_option maxRecDepth 100000 in
set_option maxHeartbeats 8000000 in
theorem ver_safe {g b n : Nat} {p : Prg} {v : PV} {vt vo : Value} (x : Nat → Int) (r : Rg) (w : World) (H : CkAt w g p v b n vt vo) (HT : TabsAt w v.vt p.tabs) (HX : RowOf strC 1 w v.vx p.texts) (h8 : r.length = 8) (hx : SOk p x) (h2 : 0 ≤ x 2) :
    Calls Try.prog 29 #[.pointer (some ⟨g, 0, none⟩), vI x, rgV r] w fun e w' => e = .returned (.bool (safeI p x r)) ∧ Below w.heap.size w w' := by
  obtain ⟨ts, hts, htl, htr⟩ := HT
  obtain ⟨at', ct, hvt, hct, hmt, hcellt⟩ := hts.open (f := tbC) (sz := 2) (fun _ => rfl)
  obtain ⟨ax, cx, hvx, hcx, hmx⟩ := HX.slice
  obtain ⟨ka, hka⟩ : ∃ k : Nat, x 1 = (k : Int) := ⟨(x 1).toNat, by have := hx.a; omega⟩
  have hka8 : ka < 8 := by have := hx.a; omega
  obtain ⟨kb, hkb⟩ : ∃ k : Nat, x 2 % 8 = (k : Int) := ⟨(x 2 % 8).toNat, by omega⟩
  have hkb8 : kb < 8 := by omega
  have hand : bits .and .i64 (x 2) 7 = (kb : Int) := by rw [i64_and7]; exact hkb
  have hb1 : Below w.heap.size w ((w.alloc (.cells (ic x) 85)).alloc (.cells (rgC r).toArray 79)) := ((Below.refl _ _).alloc (Nat.le_refl _) _).alloc (by simp) _
  have HC1 := Lib.hid (H.of_heap (hb1.block g H.lt))
  have HR1 : Hid (RgBox ((w.alloc (.cells (ic x) 85)).alloc (.cells (rgC r).toArray 79)) (w.heap.size + 1) r) := Lib.hid (two_new w _ _).1
  have HI1 : Hid (InsAt ((w.alloc (.cells (ic x) 85)).alloc (.cells (rgC r).toArray 79)) w.heap.size x) := Lib.hid (two_new w _ _).2
  have HB1 := Lib.hid hb1
  have Hts := Lib.hid htr
  have Htl := Lib.hid htl
  have Hct := Lib.hid hcellt
  have Hvt := Lib.hid hvt
  have Hvx := Lib.hid hvx
  have Hx := Lib.hid hx
  have H8 := Lib.hid h8
  have Hka := Lib.hid hka
  have Hkb := Lib.hid hkb
  have hka8' : (ka : Int) < 8 := by omega
  have hkb8' : (kb : Int) < 8 := by omega
  clear hb1 htr htl hcellt hvt hvx hx h8 hka hkb H hts hct hmt hcx hmx HX
  go_enter Try.func29, Try.ntmps29
  repeat' (go_not_at_region 1; first | go_values | go_skip | go_guarded | go_step | go_upon)
  obtain ⟨g4, hg4⟩ : ∃ y, y = w.heap.size := ⟨_, rfl⟩
  rw [← hg4] at HR1 HI1 ⊢
  clear hg4
  refine gen_wd (fun w' => CkAt w' g p v b n vt vo ∧ RgBox w' (g4 + 1) r ∧ InsAt w' g4 x ∧ Below w.heap.size w w') ⟨HC1.out, HR1.out, HI1.out, HB1.out⟩ ?_
  clear HC1 HR1 HI1 HB1
  rintro wa ⟨j1, j2, j3, j4⟩
  have J1 := Lib.hid j1
  have J2 := Lib.hid j2
  have J3 := Lib.hid j3
  have J4 := Lib.hid j4
  clear j1 j2 j3 j4
  have e0 : ∀ nq : WB wa, nq.1.cell? ⟨g4, 1, none⟩ = some (.int .i64 (ka : Int)) := fun nq => by rw [← Hka.out]; exact (J3.out.keep nq.2).cell 1 (by decide)
  have e1 : ∀ nq : WB wa, nq.1.cell? ⟨g4, 2, none⟩ = some (.int .i64 (x 2)) := fun nq => (J3.out.keep nq.2).cell 2 (by decide)
  have e2 : ∀ nq : WB wa, nq.1.cell? ⟨g4 + 1, ka * 2, none⟩ = some (.int .i64 (rget r ka).1) := fun nq => ((J2.out.keep nq.2).two H8.out hka8).1
  have e3 : ∀ nq : WB wa, nq.1.cell? ⟨g4 + 1, ka * 2 + 1, none⟩ = some (.int .i64 (rget r ka).2) := fun nq => ((J2.out.keep nq.2).two H8.out hka8).2
  have e4 : ∀ nq : WB wa, nq.1.cell? ⟨g4 + 1, kb * 2, none⟩ = some (.int .i64 (rget r kb).1) := fun nq => ((J2.out.keep nq.2).two H8.out hkb8).1
  have e5 : ∀ nq : WB wa, nq.1.cell? ⟨g4 + 1, kb * 2 + 1, none⟩ = some (.int .i64 (rget r kb).2) := fun nq => ((J2.out.keep nq.2).two H8.out hkb8).2
  go_cut [7, 8] from 10 to 78 (fun s7 s8 wc => ∃ g7 g8 : Nat, s7 = .pointer (some ⟨g7, 0, none⟩) ∧ s8 = .pointer (some ⟨g8, 0, none⟩) ∧ Hid (Below wa.heap.size wa wc ∧ VSp wc g7 (rget r ka) ∧ VSp wc g8 (rget r kb)))
  case first =>
    refine wp_region_anyC (by kernel_rfl) wa ?_
    refine tkC 0 rfl ?_
    refine tkC 1 rfl ?_
    refine tkC 2 rfl ?_
    refine tkC 3 rfl ?_
    refine tkC 4 rfl ?_
    refine tkC 5 rfl ?_
    refine tkC 6 rfl ?_
    refine tkC 7 rfl ?_
    refine tkC 8 rfl ?_
    refine wpAnyC_ready (CW.of ((Below.refl _ _).drew)) (rs := [9, 10]) (by kernel_rfl) (by simp) ?_
    refine (AllReadyC.cons rfl (fun K hK => ?_) (AllReadyC.cons rfl (fun K hK => ?_) AllReadyC.nil))
    focus
      go_simp
      refine hK _ _ ?_
      clear hK K
      refine wpAnyC_ready (CW.of (((Below.refl _ _).drew).alloc (by simp) _)) (rs := [10]) (by kernel_rfl) (by simp) ?_
      refine (AllReadyC.cons rfl (fun K hK => ?_) AllReadyC.nil)
      go_simp
      refine hK _ _ ?_
      clear hK K
      refine wpAnyC_ready (CW.of ((((Below.refl _ _).drew).alloc (by simp) _).alloc (by simp) _)) (rs := [11]) (by kernel_rfl) (by simp) ?_
      refine (AllReadyC.cons rfl (fun K hK => ?_) AllReadyC.nil)
      go_simp
      refine hK _ _ ?_
      clear hK K
      refine wpAnyC_ready (CW.of ((((Below.refl _ _).alloc (Nat.le_refl _) _).alloc (by simp) _).drew)) (rs := [12]) (by kernel_rfl) (by simp) ?_
      refine (AllReadyC.cons rfl (fun K hK => ?_) AllReadyC.nil)
      go_simp
      refine hK _ _ ?_
      clear hK K
      refine wpAnyC_done (by kernel_rfl) (CW.of (((((Below.refl _ _).alloc (Nat.le_refl _) _).alloc (by simp) _).drew))) (by go_simp <;> with_reducible rfl) ?_
      repeat' (first | go_values | go_skip | go_guarded | go_step | go_upon)
      go_meet
      case rel => exact ⟨_, _, rfl, rfl, Lib.hid ⟨((((Below.refl _ _).alloc (Nat.le_refl _) _).alloc (by simp) _).drew), (two_new wa _ _).2, (two_new wa _ _).1⟩⟩
    focus
      go_simp
      refine hK _ _ ?_
      clear hK K
      refine wpAnyC_ready (CW.of (((Below.refl _ _).drew).alloc (by simp) _)) (rs := [9]) (by kernel_rfl) (by simp) ?_
      refine (AllReadyC.cons rfl (fun K hK => ?_) AllReadyC.nil)
      go_simp
      refine hK _ _ ?_
      clear hK K
      refine wpAnyC_ready (CW.of ((((Below.refl _ _).drew).alloc (by simp) _).alloc (by simp) _)) (rs := [11]) (by kernel_rfl) (by simp) ?_
      refine (AllReadyC.cons rfl (fun K hK => ?_) AllReadyC.nil)
      go_simp
      refine hK _ _ ?_
      clear hK K
      refine wpAnyC_ready (CW.of (((((Below.refl _ _).alloc (Nat.le_refl _) _).alloc (by simp) _).drew))) (rs := [12]) (by kernel_rfl) (by simp) ?_
      refine (AllReadyC.cons rfl (fun K hK => ?_) AllReadyC.nil)
      go_simp
      refine hK _ _ ?_
      clear hK K
      refine wpAnyC_done (by kernel_rfl) (CW.of (((((Below.refl _ _).alloc (Nat.le_refl _) _).alloc (by simp) _).drew))) (by go_simp <;> with_reducible rfl) ?_
      repeat' (first | go_values | go_skip | go_guarded | go_step | go_upon)
      go_meet
      case rel => exact ⟨_, _, rfl, rfl, Lib.hid ⟨((((Below.refl _ _).alloc (Nat.le_refl _) _).alloc (by simp) _).drew), (two_new wa _ _).1, (two_new wa _ _).2⟩⟩
  case rest =>
    obtain ⟨g7, g8, rfl, rfl, hcut⟩ := hcut
    have HS : Hid (SV w g b n p v vt vo g4 g7 g8 x (rget r ka) (rget r kb) wc) := Lib.hid (by
      obtain ⟨h1, h2, h3⟩ := hcut.out
      exact ⟨J4.out.trans (h1.mono J4.out.size), J1.out.of_heap (h1.block g J1.out.lt), J3.out.keep h1, h2, h3⟩)
    clear e0 e1 e2 e3 e4 e5 J1 J2 J3 hcut hand H8
    have hw4 : Hid (Below w.heap.size w wc) := Lib.hid HS.out.bel
    have eA : Hid (rget r (x 1).toNat = rget r ka) := Lib.hid (by rw [Hka.out]; rfl)
    have eB : Hid (0 ≤ x 2 ∧ x 2 ≤ 7 → rget r (x 2).toNat = rget r kb) := Lib.hid fun h => by
      have := Hkb.out
      rw [show (x 2).toNat = kb from by omega]
    generalize rget r ka = A at HS eA
    generalize rget r kb = B at HS eB
    have q0 := HS.out.ins.cell 0 (by decide)
    have s0 := HS.out.s7.two.1
    have s1 := HS.out.s7.two.2
    by_cases hop : x 0 = 12
    · have HB : Hid (safeI p x r = inB A 0 255) := Lib.hid (by rw [safe_12 hop, eA.out])
      rw [hop] at q0
      clear hop
      repeat' (first | (go_at_call 46; refine Calls.mono (ver_within A 0 255 _) ?_; rintro _ w1 ⟨rfl, hb1⟩; dsimp only) | go_values | go_skip | go_guarded | go_step | go_upon)
      go_ret
      exact ⟨by rw [HB.out]; rfl, HS.out.bel.trans (hb1.mono HS.out.bel.size)⟩
    have h12 := hop
    clear hop
    by_cases hop : x 0 = 15
    · have HB : Hid (safeI p x r = inB A 0 (p.signs - 1)) := Lib.hid (by rw [safe_15 hop, eA.out])
      have hs1 : 0 ≤ p.signs := Hx.out.s.1
      have hs2 : p.signs ≤ 65536 := Hx.out.s.2
      have k0 : ∀ nq : WB wc, nq.1.cell? ⟨g7, 0, none⟩ = some (.int .i64 A.1) := fun nq => (HS.out.keep nq.2).s7.two.1
      have k1 : ∀ nq : WB wc, nq.1.cell? ⟨g7, 1, none⟩ = some (.int .i64 A.2) := fun nq => (HS.out.keep nq.2).s7.two.2
      have k2 : ∀ nq : WB wc, nq.1.cell? ⟨g, 3, none⟩ = some (.int .i64 p.signs) := fun nq => (HS.out.keep nq.2).ck.cell 3
      rw [hop] at q0
      clear hop
      repeat' (go_not_at_region 11; first | go_values | go_skip | go_guarded | go_step | go_upon)
      refine wp_region_wb (by kernel_rfl) (by kernel_rfl) wc (Below.refl _ _) ?_
      repeat (go_big_quiet_step (((go_at_call 46; exact calls_wb (ver_within A 0 (p.signs - 1) _)))))
      refine wpQuiet_nil ?_
      rintro _ ⟨nq, rfl⟩
      have hnq := nq.2
      repeat' (first | go_values | go_skip | go_guarded | go_step | go_upon)
      go_ret
      exact ⟨by rw [HB.out]; rfl, (HS.out.keep hnq).bel⟩
    have h15 := hop
    clear hop
    by_cases hop : x 0 = 13
    · have HB : Hid (safeI p x r = (inB A 0 (2 * (p.texts.length : Int) - 1) && inB B 0 255)) := Lib.hid (by rw [safe_13 hop, eA.out, eB.out (Hx.out.b (.inr hop))])
      have hnt : p.texts.length ≤ 4096 := Hx.out.n
      have k0 : ∀ nq : WB wc, nq.1.cell? ⟨g7, 0, none⟩ = some (.int .i64 A.1) := fun nq => (HS.out.keep nq.2).s7.two.1
      have k1 : ∀ nq : WB wc, nq.1.cell? ⟨g7, 1, none⟩ = some (.int .i64 A.2) := fun nq => (HS.out.keep nq.2).s7.two.2
      have k3 : ∀ nq : WB wc, nq.1.cell? ⟨g8, 0, none⟩ = some (.int .i64 B.1) := fun nq => (HS.out.keep nq.2).s8.two.1
      have k4 : ∀ nq : WB wc, nq.1.cell? ⟨g8, 1, none⟩ = some (.int .i64 B.2) := fun nq => (HS.out.keep nq.2).s8.two.2
      have k2 : ∀ nq : WB wc, nq.1.cell? ⟨g, 6, none⟩ = some (.slice ax p.texts.length cx) := fun nq => by rw [← Hvx.out]; exact (HS.out.keep nq.2).ck.cell 6
      rw [hop] at q0
      clear hop
      have HW := Lib.hid fun w => ver_within A 0 (2 * (p.texts.length : Int) - 1) w
      have HV := Lib.hid fun w => ver_within B 0 255 w
      obtain ⟨c1, hc1⟩ : ∃ c, c = inB A 0 (2 * (p.texts.length : Int) - 1) := ⟨_, rfl⟩
      obtain ⟨c2, hc2⟩ : ∃ c, c = inB B 0 255 := ⟨_, rfl⟩
      rw [← hc1] at HW HB
      rw [← hc2] at HV HB
      clear hc1 hc2
      cases c1 with
      | true =>
        repeat' (go_not_at_region 9; first | go_values | go_skip | go_guarded | go_step | go_upon)
        refine wp_region_wb (by kernel_rfl) (by kernel_rfl) wc (Below.refl _ _) ?_
        repeat (go_big_quiet_step (((go_at_call 46; first | (with_reducible exact calls_wb (HW.out _)) | (with_reducible exact calls_wb (HV.out _))))))
        refine wpQuiet_nil ?_
        rintro _ ⟨nq, rfl⟩
        have hnq := nq.2
        repeat' (first | go_values | go_skip | go_guarded | go_step | go_upon)
        go_ret
        exact ⟨by rw [HB.out]; simp, (HS.out.keep hnq).bel⟩
      | false =>
        repeat' (go_not_at_region 9; first | go_values | go_skip | go_guarded | go_step | go_upon)
        refine wp_region_wb (by kernel_rfl) (by kernel_rfl) wc (Below.refl _ _) ?_
        repeat (go_big_quiet_step (((go_at_call 46; with_reducible exact calls_wb (HW.out _)))))
        refine wpQuiet_nil ?_
        rintro _ ⟨nq, rfl⟩
        have hnq := nq.2
        repeat' (first | go_values | go_skip | go_guarded | go_step | go_upon)
        go_ret
        exact ⟨by rw [HB.out]; simp, (HS.out.keep hnq).bel⟩
    have h13 := hop
    clear hop
    by_cases hop : x 0 = 8
    rotate_left
    · have HB : Hid (safeI p x r = true) := Lib.hid (safe_no hop h12 h13 h15)
      have t8 : (x 0 == 8) = false := beq_false_of_ne hop
      have t12 : (x 0 == 12) = false := beq_false_of_ne h12
      have t13 : (x 0 == 13) = false := beq_false_of_ne h13
      have t15 : (x 0 == 15) = false := beq_false_of_ne h15
      clear hop h12 h13 h15
      repeat' (first | go_values | go_skip | go_guarded | go_step | go_upon)
      go_ret
      exact ⟨by rw [HB.out]; rfl, HS.out.bel⟩
    obtain ⟨hd0, hd1, hq1, hq2, hdn⟩ := Hx.out.t hop
    obtain ⟨kt, hkt⟩ : ∃ k : Nat, x 4 = (k : Int) := ⟨(x 4).toNat, by omega⟩
    have hktl : kt < p.tabs.length := by omega
    have hkts : kt < ts.length := by rw [Htl.out]; exact hktl
    have htd : tabD p x = p.tabs[kt] := by
      unfold tabD
      rw [hkt, Int.toNat_natCast, List.getD_eq_getElem?_getD, List.getElem?_eq_getElem hktl]; rfl
    have hti : ts[kt]? = some ts[kt] := List.getElem?_eq_getElem hkts
    obtain ⟨e1, _, hrow⟩ := Hts.out kt _ _ hti (List.getElem?_eq_getElem hktl)
    rcases Hct.out with h0 | ⟨bt, ot, hat, hbt, hclt⟩
    · omega
    subst hat
    obtain ⟨t0, t1⟩ := tab_cells hclt hti
    have HB : Hid (safeI p x r = (inB A 0 (((p.tabs[kt]).2.length : Int) / (p.tabs[kt]).1 - 1) && inB B 0 ((p.tabs[kt]).1 - 1))) := Lib.hid (by rw [safe_8 hop, htd, eA.out, eB.out (Hx.out.b (.inl hop))])
    rw [htd] at hq1 hq2 hdn
    generalize p.tabs[kt] = tab at *
    obtain ⟨q, dl⟩ := tab
    generalize ts[kt] = tt at *
    obtain ⟨q', vd⟩ := tt
    dsimp only at e1 hrow t0 t1 hq1 hq2 hdn HB
    obtain ⟨ad, cd, hvd, hcd, hmd⟩ := hrow.slice
    subst hvd e1
    have hdn0 : 0 ≤ (dl.length : Int) := by omega
    have hdnI : (dl.length : Int) ≤ 400000 := by omega
    generalize dl.length = dn at *
    obtain ⟨D, hD⟩ : ∃ D, D = (dn : Int) / q' := ⟨_, rfl⟩
    have htdv : (dn : Int).tdiv q' = D := by rw [hD]; exact Int.tdiv_eq_ediv_of_nonneg hdn0
    have hD0 : 0 ≤ D := by rw [hD]; exact Int.ediv_nonneg hdn0 (by omega)
    have hD1 : D ≤ 400000 := by rw [hD]; exact Int.le_trans (Int.ediv_le_self _ hdn0) hdnI
    have hqz : (q' == 0) = false := beq_false_of_ne (by omega)
    rw [← hD] at HB
    have hbw : ∀ (nq : WB wc) o, nq.1.cell? ⟨bt, o, none⟩ = w.cell? ⟨bt, o, none⟩ := fun nq o => by
      rw [nq.2.cell (show bt < wc.heap.size from Nat.lt_of_lt_of_le hbt hw4.out.size), hw4.out.cell (show bt < w.heap.size from hbt)]
    have k5 : ∀ nq : WB wc, nq.1.cell? ⟨bt, ot + kt * 2, none⟩ = some (.int .i64 q') := fun nq => by rw [hbw]; exact t0
    have k6 : ∀ nq : WB wc, nq.1.cell? ⟨bt, ot + kt * 2 + 1, none⟩ = some (.slice ad dn cd) := fun nq => by rw [hbw]; exact t1
    have k7 : ∀ nq : WB wc, nq.1.cell? ⟨g, 5, none⟩ = some (.slice (some ⟨bt, ot, none⟩) ts.length ct) := fun nq => by rw [← Hvt.out]; exact (HS.out.keep nq.2).ck.cell 5
    have k8 : ∀ nq : WB wc, nq.1.cell? ⟨g4, 4, none⟩ = some (.int .i64 (kt : Int)) := fun nq => by rw [← hkt]; exact (HS.out.keep nq.2).ins.cell 4 (by decide)
    have hkts' : (kt : Int) < (ts.length : Int) := by omega
    have HW := Lib.hid fun w => ver_within A 0 (D - 1) w
    have HV := Lib.hid fun w => ver_within B 0 (q' - 1) w
    obtain ⟨c1, hc1⟩ : ∃ c, c = inB A 0 (D - 1) := ⟨_, rfl⟩
    obtain ⟨c2, hc2⟩ : ∃ c, c = inB B 0 (q' - 1) := ⟨_, rfl⟩
    rw [← hc1] at HW HB
    rw [← hc2] at HV HB
    rw [hop] at q0
    clear hop h12 h13 h15 hc1 hc2 hD hrow hti hcd hmd hclt t0 t1 hbw hkt htd hktl hd0 hd1 hdn
    repeat' (go_not_at_region 4; first | go_values | go_skip | go_guarded | go_step | go_upon)
    refine wp_region_anyC (by kernel_rfl) wc ?_
    refine tkC 0 rfl ?_
    refine tkC 1 rfl ?_
    refine tkC 2 rfl ?_
    refine tkC 3 rfl ?_
    refine tkC 4 rfl ?_
    refine tkC 5 rfl ?_
    refine tkC 6 rfl ?_
    refine tkC 7 rfl ?_
    refine tkC 8 rfl ?_
    refine wpAnyC_ready (CW.of ((Below.refl _ _).drew)) (rs := [9]) (by kernel_rfl) (by simp) ?_
    refine (AllReadyC.cons rfl (fun K hK => ?_) AllReadyC.nil)
    go_simp
    refine hK _ _ ?_
    clear hK K
    refine wpAnyC_ready (CW.of (((Below.refl _ _).drew).alloc (by simp) _)) (rs := [10]) (by kernel_rfl) (by simp) ?_
    refine (AllReadyC.cons rfl (fun K hK => ?_) AllReadyC.nil)
    go_simp
    refine hK _ _ ?_
    clear hK K
    refine wpAnyC_done (by kernel_rfl) (CW.of (((Below.refl _ _).alloc (Nat.le_refl _) _).drew)) (by go_simp <;> with_reducible rfl) ?_
    clear k5 k6 k7 k8
    repeat' (go_not_at_region 5; first | go_values | go_skip | go_guarded | go_step | go_upon)
    have hbx : Below wc.heap.size wc (wc.alloc (.cells #[.int .i64 q', .slice ad dn cd] 74)).drew := ((Below.refl _ _).alloc (Nat.le_refl _) _).drew
    obtain ⟨g9, hg9⟩ : ∃ y, y = wc.heap.size := ⟨_, rfl⟩
    have HT9 : Hid (TBox (wc.alloc (.cells #[.int .i64 q', .slice ad dn cd] 74)).drew g9 q' (.slice ad dn cd)) := Lib.hid (by rw [hg9]; exact TBox.new _ _ _)
    rw [← hg9]
    refine gen_wd (fun w' => SV w g b n p v vt vo g4 g7 g8 x A B w' ∧ TBox w' g9 q' (.slice ad dn cd)) ⟨HS.out.keep hbx, HT9.out⟩ ?_
    clear hbx hg9 HT9 HS
    rintro wd ⟨j1, j2⟩
    have HS := Lib.hid j1
    have HT := Lib.hid j2
    clear j1 j2
    have k0 : ∀ nq : WB wd, nq.1.cell? ⟨g7, 0, none⟩ = some (.int .i64 A.1) := fun nq => (HS.out.keep nq.2).s7.two.1
    have k1 : ∀ nq : WB wd, nq.1.cell? ⟨g7, 1, none⟩ = some (.int .i64 A.2) := fun nq => (HS.out.keep nq.2).s7.two.2
    have k3 : ∀ nq : WB wd, nq.1.cell? ⟨g8, 0, none⟩ = some (.int .i64 B.1) := fun nq => (HS.out.keep nq.2).s8.two.1
    have k4 : ∀ nq : WB wd, nq.1.cell? ⟨g8, 1, none⟩ = some (.int .i64 B.2) := fun nq => (HS.out.keep nq.2).s8.two.2
    have k5 : ∀ nq : WB wd, nq.1.cell? ⟨g9, 0, none⟩ = some (.int .i64 q') := fun nq => (HT.out.keep nq.2).two.1
    have k6 : ∀ nq : WB wd, nq.1.cell? ⟨g9, 1, none⟩ = some (.slice ad dn cd) := fun nq => (HT.out.keep nq.2).two.2
    cases c1 with
    | true =>
      refine wp_region_wb (by kernel_rfl) (by kernel_rfl) wd (Below.refl _ _) ?_
      repeat (go_big_quiet_step (((go_at_call 46; first | (with_reducible exact calls_wb (HW.out _)) | (with_reducible exact calls_wb (HV.out _))))))
      refine wpQuiet_nil ?_
      rintro _ ⟨nq, rfl⟩
      have hnq := nq.2
      repeat' (first | go_values | go_skip | go_guarded | go_step | go_upon)
      go_ret
      exact ⟨by rw [HB.out]; simp, (HS.out.keep hnq).bel⟩
    | false =>
      refine wp_region_wb (by kernel_rfl) (by kernel_rfl) wd (Below.refl _ _) ?_
      repeat (go_big_quiet_step (((go_at_call 46; with_reducible exact calls_wb (HW.out _)))))
      refine wpQuiet_nil ?_
      rintro _ ⟨nq, rfl⟩
      have hnq := nq.2
      repeat' (first | go_values | go_skip | go_guarded | go_step | go_upon)
      go_ret
      exact ⟨by rw [HB.out]; simp, (HS.out.keep hnq).bel⟩
end Go.Proofs.Ytkpdcejnanhgoaa
