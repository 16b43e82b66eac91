/- Walk: what follows of a test for equality flows on (step). Conditions: the checker and the program lie in memory; the program is whole. -/
import Derived.Test.YtkpdcejnanhgoaaPk15
namespace Go.Proofs.Ytkpdcejnanhgoaa
open Go.RowKit
set_option maxRecDepth 100000 in
set_option maxHeartbeats 8000000 in
theorem ver_step5 {B : Nat} {p : Prg} {v : PV} {of : Rg} {vo vt : Value} {S : Sts} {td : List Nat} {g b : Nat} (i : Nat) (x : Nat → Int) (r : Rg) (w : World) (H : CK B g b p v of vo S td vt w) (HC : RowOf icL 5 w v.vc p.code) (hx : p.code[i]? = some x) (hop5 : x 0 = 5) (hr : S.getD i none = some r) (hi : i < S.length) (hn : S.length ≤ 4096)
    (hl : goN of x r ≠ none → i + 1 < S.length) (ho : okR r) (hK : XOk of x) (h2 : 0 ≤ x 2 ∧ x 2 ≤ 1073741824) (h3 : 0 ≤ x 3 ∧ x 3 < S.length) (h4 : x 0 = 8 → 0 ≤ x 4 ∧ x 4 < of.length) (htd : td.length ≤ 1000000000) (hB : B ≤ w.heap.size) :
    Calls Try.prog 28 #[.pointer (some ⟨g, 0, none⟩), .int .i64 (i : Int)] w fun e w' => e = .returned (.tuple #[]) ∧ ∃ vt', CK B g b p v of vo (flowO (flowO (S, td) (x 3).toNat (goF x r)) (i + 1) (goN of x r)).1 (flowO (flowO (S, td) (x 3).toNat (goF x r)) (i + 1) (goN of x r)).2 vt' w' ∧ FlowFr B w w' := by
  obtain ⟨ac, cc, hvc, hcc, hmc, hcellc⟩ := HC.open icL_len
  rcases hcellc with h0 | ⟨bc, oc, rfl, hbc, hcl⟩
  · rw [List.eq_nil_of_length_eq_zero h0] at hx; simp at hx
  have hic := (List.getElem?_eq_some_iff.1 hx).1
  obtain ⟨d0, d1, d2, d3, d4⟩ := Row5p.cells hcl i hic
  rw [show p.code.getD i (fun _ => 0) = x from by rw [List.getD_eq_getElem?_getD, hx]; rfl] at d0 d1 d2 d3 d4
  have hb1 : Below w.heap.size w (w.alloc (.cells #[.pointer (some ⟨g, 0, none⟩)] 68)) := (Below.refl _ _).alloc (Nat.le_refl _) _
  have H1 := Lib.hid (H.keep hb1)
  have P1 : Hid (PtBox (w.alloc (.cells #[.pointer (some ⟨g, 0, none⟩)] 68)) w.heap.size g) := Lib.hid (Go.heap_alloc_new _ _)
  have F1 : Hid (FlowFr B w (w.alloc (.cells #[.pointer (some ⟨g, 0, none⟩)] 68))) := Lib.hid (FlowFr.of_below hb1 hB)
  have D0 := Lib.hid d0
  have D1 := Lib.hid d1
  have D2 := Lib.hid d2
  have D3 := Lib.hid d3
  have D4 := Lib.hid d4
  have Hvc := Lib.hid hvc
  have H5 := Lib.hid hop5
  clear hop5
  have Hic := Lib.hid hic
  have Hr := Lib.hid hr
  have Hi := Lib.hid hi
  have HL := Lib.hid hl
  have HO := Lib.hid ho
  have HK := Lib.hid hK
  have H2 := Lib.hid h2
  have H3 := Lib.hid h3
  have H4 := Lib.hid h4
  have Hbc := Lib.hid hbc
  clear hb1 hvc hcc hmc hcl H HC hr hi hl ho hK h2 h3 h4 d0 d1 d2 d3 d4 hx hic
  go_enter Try.func28, Try.ntmps28
  repeat' (go_not_at_region 1; first | go_values | go_skip | go_guarded | go_step | go_upon)
  obtain ⟨g2, hg2⟩ : ∃ y, y = w.heap.size := ⟨_, rfl⟩
  rw [← hg2] at P1 ⊢
  have Hg2 : Hid (w.heap.size ≤ g2) := Lib.hid (by omega)
  clear hg2
  refine gen_wd (fun w' => CK B g b p v of vo S td vt w' ∧ FlowFr B w w' ∧ PtBox w' g2 g ∧ B ≤ w'.heap.size ∧ Below w.heap.size w w') ⟨H1.out, F1.out, P1.out, by rw [World.size_alloc]; omega, (Below.refl _ _).alloc (Nat.le_refl _) _⟩ ?_
  clear H1 F1 P1
  rintro wa ⟨j1, j2, j3, j4, j5⟩
  have J1 := Lib.hid j1
  have J2 := Lib.hid j2
  have J3 := Lib.hid j3
  have J4 := Lib.hid j4
  have J5 := Lib.hid j5
  clear j1 j2 j3 j4 j5
  have e0 : ∀ nq : WB wa, nq.1.cell? ⟨g2, 0, none⟩ = some (.pointer (some ⟨g, 0, none⟩)) := fun nq => by rw [nq.2.cell (show g2 < wa.heap.size from (Array.getElem?_eq_some_iff.1 J3.out).1)]; exact J3.out.cell
  have e1 : ∀ nq : WB wa, nq.1.cell? ⟨g, 4, none⟩ = some (.slice (some ⟨bc, oc, none⟩) p.code.length cc) := fun nq => by rw [← Hvc.out]; exact (J1.out.keep nq.2).ck.cell 4
  have e2 : ∀ nq : WB wa, nq.1.cell? ⟨g, 10, none⟩ = some (.slice (some ⟨b, 0, none⟩) S.length S.length) := fun nq => (J1.out.keep nq.2).ck.cell 10
  have hbw : ∀ (nq : WB wa) o, nq.1.cell? ⟨bc, o, none⟩ = w.cell? ⟨bc, o, none⟩ := fun nq o => by
    rw [nq.2.cell (show bc < wa.heap.size from Nat.lt_of_lt_of_le Hbc.out J5.out.size), J5.out.cell (show bc < w.heap.size from Hbc.out)]
  have e3 : ∀ nq : WB wa, nq.1.cell? ⟨bc, oc + i * 5, none⟩ = some (.int .i64 (x 0)) := fun nq => by rw [hbw]; exact D0.out
  have e4 : ∀ nq : WB wa, nq.1.cell? ⟨bc, oc + i * 5 + 1, none⟩ = some (.int .i64 (x 1)) := fun nq => by rw [hbw]; exact D1.out
  have e5 : ∀ nq : WB wa, nq.1.cell? ⟨bc, oc + i * 5 + 2, none⟩ = some (.int .i64 (x 2)) := fun nq => by rw [hbw]; exact D2.out
  have e6 : ∀ nq : WB wa, nq.1.cell? ⟨bc, oc + i * 5 + 3, none⟩ = some (.int .i64 (x 3)) := fun nq => by rw [hbw]; exact D3.out
  have e7 : ∀ nq : WB wa, nq.1.cell? ⟨bc, oc + i * 5 + 4, none⟩ = some (.int .i64 (x 4)) := fun nq => by rw [hbw]; exact D4.out
  clear hbw
  have i1 : (i : Int) < (p.code.length : Int) := by have := Hic.out; omega
  have i2 : (i : Int) < (S.length : Int) := by have := Hi.out; omega
  go_cut [4, 5] from 9 to 179 (fun s4 s5 wc => ∃ g4 g5 : Nat, s4 = .pointer (some ⟨g4, 0, none⟩) ∧ s5 = .pointer (some ⟨g5, 0, none⟩) ∧ Hid (CK B g b p v of vo S td vt wc ∧ WV g5 g4 g2 g r x wc ∧ FlowFr B w wc ∧ B ≤ wc.heap.size))
  case first =>
    refine wp_region_anyC (by kernel_rfl) wa ?_
    refine tkC 0 rfl ?_
    refine tkC 1 rfl ?_
    refine tkC 2 rfl ?_
    refine tkC 3 rfl ?_
    refine tkC 4 rfl ?_
    refine tkC 5 rfl ?_
    refine tkC 6 rfl ?_
    refine tkC 7 rfl ?_
    refine tkC 8 rfl ?_
    refine tkC 9 rfl ?_
    refine tkC 10 rfl ?_
    refine tkC 11 rfl ?_
    refine tkC 12 rfl ?_
    refine tkC 13 rfl ?_
    refine tkC 14 rfl ?_
    refine wpAnyC_take (i := 15) (v := _) rfl (by kernel_rfl) (by kernel_rfl) (by kernel_rfl) (fun _ _ _ h => h) (Or.inl ⟨by rfl, fun w ⟨nq, hw⟩ => by (subst hw; exact exec_load_mid (by have h := (J1.out.keep nq.2).sts.regs i Hi.out; rw [Hr.out] at h; exact h) HO.out.1 _ rfl rfl)⟩) (by go_simp <;> with_reducible rfl) ?_
    refine wpAnyC_ready (CW.of ((Below.refl _ _).drew)) (rs := [16, 17]) (by kernel_rfl) (by simp) ?_
    refine (AllReadyC.cons rfl (fun K hK => ?_) (AllReadyC.cons rfl (fun K hK => ?_) AllReadyC.nil))
    focus
      go_simp
      refine hK _ _ ?_
      clear hK K
      refine wpAnyC_ready (CW.of (((Below.refl _ _).drew).alloc (by simp) _)) (rs := [17]) (by kernel_rfl) (by simp) ?_
      refine (AllReadyC.cons rfl (fun K hK => ?_) AllReadyC.nil)
      go_simp
      refine hK _ _ ?_
      clear hK K
      refine wpAnyC_ready (CW.of ((((Below.refl _ _).drew).alloc (by simp) _).alloc (by simp) _)) (rs := [18]) (by kernel_rfl) (by simp) ?_
      refine (AllReadyC.cons rfl (fun K hK => ?_) AllReadyC.nil)
      go_simp
      refine hK _ _ ?_
      clear hK K
      refine wpAnyC_ready (CW.of ((((Below.refl _ _).alloc (Nat.le_refl _) _).alloc (by simp) _).drew)) (rs := [19]) (by kernel_rfl) (by simp) ?_
      refine (AllReadyC.cons rfl (fun K hK => ?_) AllReadyC.nil)
      refine step_of rfl (store_rowrg (two_new wa _ _).1 rfl HO.out.1 _ _ rfl rfl rfl ?_)
      refine hK _ _ ?_
      clear hK K
      refine wpAnyC_done (by kernel_rfl) (CW.of (below_setRow ((((Below.refl _ _).alloc (Nat.le_refl _) _).alloc (by simp) _).drew) (by simp) _)) (by go_simp <;> with_reducible rfl) ?_
      repeat' (first | go_values | go_skip | go_guarded | go_step | go_upon)
      go_meet
      case rel => exact ⟨_, _, rfl, rfl, Lib.hid (new_vars J1.out J2.out J3.out J4.out (below_setRow ((((Below.refl _ _).alloc (Nat.le_refl _) _).alloc (by simp) _).drew) (by simp) _) (by rw [setRow_other _ _ _ _ (by omega)]; exact (two_new wa _ _).2) (setRow_heap _ _ _ _ _ _ (two_new wa _ _).1))⟩
    focus
      go_simp
      refine hK _ _ ?_
      clear hK K
      refine wpAnyC_ready (CW.of (((Below.refl _ _).drew).alloc (by simp) _)) (rs := [16]) (by kernel_rfl) (by simp) ?_
      refine (AllReadyC.cons rfl (fun K hK => ?_) AllReadyC.nil)
      go_simp
      refine hK _ _ ?_
      clear hK K
      refine wpAnyC_ready (CW.of ((((Below.refl _ _).drew).alloc (by simp) _).alloc (by simp) _)) (rs := [18]) (by kernel_rfl) (by simp) ?_
      refine (AllReadyC.cons rfl (fun K hK => ?_) AllReadyC.nil)
      go_simp
      refine hK _ _ ?_
      clear hK K
      refine wpAnyC_ready (CW.of ((((Below.refl _ _).alloc (Nat.le_refl _) _).alloc (by simp) _).drew)) (rs := [19]) (by kernel_rfl) (by simp) ?_
      refine (AllReadyC.cons rfl (fun K hK => ?_) AllReadyC.nil)
      refine step_of rfl (store_rowrg (two_new wa _ _).2 rfl HO.out.1 _ _ rfl rfl rfl ?_)
      refine hK _ _ ?_
      clear hK K
      refine wpAnyC_done (by kernel_rfl) (CW.of (below_setRow ((((Below.refl _ _).alloc (Nat.le_refl _) _).alloc (by simp) _).drew) (by simp) _)) (by go_simp <;> with_reducible rfl) ?_
      repeat' (first | go_values | go_skip | go_guarded | go_step | go_upon)
      go_meet
      case rel => exact ⟨_, _, rfl, rfl, Lib.hid (new_vars J1.out J2.out J3.out J4.out (below_setRow ((((Below.refl _ _).alloc (Nat.le_refl _) _).alloc (by simp) _).drew) (by simp) _) (by rw [setRow_other _ _ _ _ (by omega)]; exact (two_new wa _ _).1) (setRow_heap _ _ _ _ _ _ (two_new wa _ _).2))⟩
  case rest =>
    obtain ⟨g4, g5, rfl, rfl, hcut⟩ := hcut
    clear e0 e1 e2 e3 e4 e5 e6 e7 J1 J2 J3 J4 J5 D0 D1 D2 D3 D4 Hvc Hbc i1 i2
    obtain ⟨ka, hka⟩ : ∃ k : Nat, x 1 = (k : Int) := ⟨(x 1).toNat, by have := HK.out.a; omega⟩
    have hka8 : ka < 8 := by have := HK.out.a; omega
    have c1 : wc.cell? ⟨g4, 1, none⟩ = some (.int .i64 (ka : Int)) := by rw [← hka]; exact hcut.out.2.1.ins.cell 1 (by decide)
    have c2 := (hcut.out.2.1.rb.two HO.out.1 hka8).1
    have c3 := (hcut.out.2.1.rb.two HO.out.1 hka8).2
    have hka8' : (ka : Int) < 8 := by omega
    have Hka := Lib.hid hka
    clear hka
    repeat' (go_not_at_region 3; first | go_values | go_skip | go_guarded | go_step | go_upon)
    obtain ⟨A, hA⟩ : ∃ A, A = rget r ka := ⟨_, rfl⟩
    have HA : Hid (rA x r = A) := Lib.hid (by rw [hA]; unfold rA; rw [Hka.out]; rfl)
    have HAo : okS A := by rw [hA]; exact HO.out.get hka8
    have hA1 : 0 ≤ A.1 ∧ A.1 ≤ A.2 ∧ A.2 ≤ 1073741824 := HAo
    rw [← hA]
    clear hA HAo
    have hb1 : Below wc.heap.size wc (wc.alloc (.cells #[.int .i64 A.1, .int .i64 A.2] 77)) := (Below.refl _ _).alloc (Nat.le_refl _) _
    obtain ⟨g6, hg6⟩ : ∃ y, y = wc.heap.size := ⟨_, rfl⟩
    have H6 : Hid ((wc.alloc (.cells #[.int .i64 A.1, .int .i64 A.2] 77)).heap[g6]? = some (.cells #[.int .i64 A.1, .int .i64 A.2] 77 (0, 0))) := Lib.hid (by rw [hg6]; exact Go.heap_alloc_new _ _)
    rw [← hg6]
    clear hg6
    refine gen_wd (SF B g b p v of vo vt S td w g5 g4 g2 g6 r x A) ⟨hcut.out.1.keep hb1, hcut.out.2.1.keep hb1, H6.out, hcut.out.2.2.1.trans (FlowFr.of_below hb1 hcut.out.2.2.2), by rw [World.size_alloc]; have := hcut.out.2.2.2; omega⟩ ?_
    clear c1 c2 c3 hb1 H6 hcut
    intro ws hs
    have HS := Lib.hid hs
    clear hs
    have H8 : Hid (r.length = 8) := Lib.hid HO.out.1
    obtain ⟨kc, hkc⟩ : ∃ k : Nat, x 3 = (k : Int) := ⟨(x 3).toNat, by have := H3.out; omega⟩
    have Hkc : Hid (kc < S.length) := Lib.hid (by have := H3.out; omega)
    have e3 : Hid ((x 3).toNat = ((kc : Int)).toNat) := Lib.hid (by omega)
    have i3 : (i : Int) < 4096 := by have := Hi.out; omega
    have ei : Hid (((i : Int) + 1).toNat = i + 1) := Lib.hid (by omega)
    have hx2 : 0 ≤ x 2 ∧ x 2 ≤ 1073741824 := H2.out
    have Htd := Lib.hid htd
    have HkcE := Lib.hid hkc
    clear hkc htd
    have hset : Hid (∀ u, sA x r u = r.set ka u) := Lib.hid fun u => by unfold sA; rw [Hka.out]; rfl
    obtain ⟨s0, s1, s2, q0, q1, q2, q3, q4⟩ := HS.out.cells
    rw [Hka.out] at q1
    rw [HkcE.out] at q3
    have Hl : Hid (goN of x r ≠ none → (0 : Int) ≤ (i : Int) + 1 ∧ (i : Int) + 1 < S.length) := Lib.hid fun h => by have := HL.out h; omega
    rw [H5.out] at q0
    have Hop := H5
    by_cases hlo : A.1 ≤ x 2
    · by_cases hhi : x 2 ≤ A.2
      · by_cases hA : A.1 = x 2
        · by_cases hB : A.2 = x 2
          · have hS : sameB A (x 2) = (A.1 + 1, A.2 - 1) := Prod.ext (by unfold sameB; dsimp only; rw [if_pos hA]) (by unfold sameB; dsimp only; rw [if_pos hB])
            have hN : Hid (goN of x r = ifIn ((A.1 + 1) ≤ (A.2 - 1)) (r.set ka (A.1 + 1, A.2 - 1))) := Lib.hid (by unfold goN; simp [Hop.out, hset.out, HA.out, hS])
            have hF : Hid (goF x r = ifIn (x 2 ≤ x 2) (r.set ka (x 2, x 2))) := Lib.hid (by unfold goF ifIn; simp [Hop.out, hset.out, HA.out, hlo, hhi])
            have Hh : Hid ((A.1 + 1) ≤ (A.2 - 1) → (0 : Int) ≤ (i : Int) + 1 ∧ (i : Int) + 1 < S.length) := Lib.hid fun h => Hl.out (by rw [hN.out]; unfold ifIn; rw [if_pos h]; simp)
            have t1 : (A.1 == x 2) = true := by simpa using hA
            have t2 : (A.2 == x 2) = true := by simpa using hB
            clear hA hB hS
            repeat' (first | (go_at_call 45; have HW := Lib.hid (ver_withP (S, td) ((kc : Int)) (x 2, x 2) ka _ HS.out.ck HS.out.wv Hka.out hka8 (fun _ => by have := Hkc.out; dsimp only; omega) H8.out (by have := Htd.out; dsimp only; omega) HS.out.sz); refine Calls.mono HW.out ?_; clear HW; rintro _ we ⟨rfl, vt1, hc1, hf1⟩; dsimp only; have HS2 := Lib.hid (HS.out.flow hf1 hc1); have HS3 : Hid (∀ o, SF B g b p v of vo vt1 (flowO (S, td) ((kc : Int)).toNat (ifIn (x 2 ≤ x 2) (r.set ka (x 2, x 2)))).1 (flowO (S, td) ((kc : Int)).toNat (ifIn (x 2 ≤ x 2) (r.set ka (x 2, x 2)))).2 w g5 g4 g2 g6 r x A (we.alloc o)) := Lib.hid fun o => HS2.out.keep ((Below.refl _ _).alloc (Nat.le_refl _) o); have r2 : ∀ o : Obj, (we.alloc o).cell? ⟨g4, 2, none⟩ = some (.int .i64 (x 2)) := fun o => (HS3.out o).wv.ins.cell 2 (by decide); clear HS hc1 hf1 s0 s1 s2 q0 q1 q2 q3 q4; obtain ⟨s0, s1, s2, q0, q1, q2, q3, q4⟩ := HS2.out.cells; rw [Hop.out] at q0; rw [Hka.out] at q1; rw [HkcE.out] at q3) | (go_at_call 45; have HW := Lib.hid (ver_withP (flowO (S, td) ((kc : Int)).toNat (ifIn (x 2 ≤ x 2) (r.set ka (x 2, x 2)))) ((i : Int) + 1) (A.1 + 1, A.2 - 1) ka _ (HS3.out (.cells #[.int .i64 (A.1 + 1), .int .i64 (A.2 - 1)] 77)).ck (HS3.out (.cells #[.int .i64 (A.1 + 1), .int .i64 (A.2 - 1)] 77)).wv Hka.out hka8 (fun h => by rw [(flowO_len (S := S) (td := td) (k := ((kc : Int)).toNat) (o := (ifIn (x 2 ≤ x 2) (r.set ka (x 2, x 2))))).1]; exact Hh.out h) H8.out (by have h1 := (flowO_len (S := S) (td := td) (k := ((kc : Int)).toNat) (o := (ifIn (x 2 ≤ x 2) (r.set ka (x 2, x 2))))).2; have := Htd.out; omega) (HS3.out (.cells #[.int .i64 (A.1 + 1), .int .i64 (A.2 - 1)] 77)).sz); refine Calls.mono HW.out ?_; clear HW; rintro _ we2 ⟨rfl, vt2, hc2, hf2⟩; dsimp only) | go_values | go_skip | go_guarded | go_step | go_upon)
            go_end0
            refine ⟨rfl, vt2, ?_, (HS3.out (.cells #[.int .i64 (A.1 + 1), .int .i64 (A.2 - 1)] 77)).fr.trans hf2⟩
            rw [hF.out, hN.out, e3.out, ← ei.out]
            exact hc2
          · have hS : sameB A (x 2) = (A.1 + 1, A.2) := Prod.ext (by unfold sameB; dsimp only; rw [if_pos hA]) (by unfold sameB; dsimp only; rw [if_neg hB])
            have hN : Hid (goN of x r = ifIn ((A.1 + 1) ≤ (A.2)) (r.set ka (A.1 + 1, A.2))) := Lib.hid (by unfold goN; simp [Hop.out, hset.out, HA.out, hS])
            have hF : Hid (goF x r = ifIn (x 2 ≤ x 2) (r.set ka (x 2, x 2))) := Lib.hid (by unfold goF ifIn; simp [Hop.out, hset.out, HA.out, hlo, hhi])
            have Hh : Hid ((A.1 + 1) ≤ (A.2) → (0 : Int) ≤ (i : Int) + 1 ∧ (i : Int) + 1 < S.length) := Lib.hid fun h => Hl.out (by rw [hN.out]; unfold ifIn; rw [if_pos h]; simp)
            have t1 : (A.1 == x 2) = true := by simpa using hA
            have t2 : (A.2 == x 2) = false := by simpa using hB
            clear hA hB hS
            repeat' (first | (go_at_call 45; have HW := Lib.hid (ver_withP (S, td) ((kc : Int)) (x 2, x 2) ka _ HS.out.ck HS.out.wv Hka.out hka8 (fun _ => by have := Hkc.out; dsimp only; omega) H8.out (by have := Htd.out; dsimp only; omega) HS.out.sz); refine Calls.mono HW.out ?_; clear HW; rintro _ we ⟨rfl, vt1, hc1, hf1⟩; dsimp only; have HS2 := Lib.hid (HS.out.flow hf1 hc1); have HS3 : Hid (∀ o, SF B g b p v of vo vt1 (flowO (S, td) ((kc : Int)).toNat (ifIn (x 2 ≤ x 2) (r.set ka (x 2, x 2)))).1 (flowO (S, td) ((kc : Int)).toNat (ifIn (x 2 ≤ x 2) (r.set ka (x 2, x 2)))).2 w g5 g4 g2 g6 r x A (we.alloc o)) := Lib.hid fun o => HS2.out.keep ((Below.refl _ _).alloc (Nat.le_refl _) o); have r2 : ∀ o : Obj, (we.alloc o).cell? ⟨g4, 2, none⟩ = some (.int .i64 (x 2)) := fun o => (HS3.out o).wv.ins.cell 2 (by decide); clear HS hc1 hf1 s0 s1 s2 q0 q1 q2 q3 q4; obtain ⟨s0, s1, s2, q0, q1, q2, q3, q4⟩ := HS2.out.cells; rw [Hop.out] at q0; rw [Hka.out] at q1; rw [HkcE.out] at q3) | (go_at_call 45; have HW := Lib.hid (ver_withP (flowO (S, td) ((kc : Int)).toNat (ifIn (x 2 ≤ x 2) (r.set ka (x 2, x 2)))) ((i : Int) + 1) (A.1 + 1, A.2) ka _ (HS3.out (.cells #[.int .i64 (A.1 + 1), .int .i64 (A.2)] 77)).ck (HS3.out (.cells #[.int .i64 (A.1 + 1), .int .i64 (A.2)] 77)).wv Hka.out hka8 (fun h => by rw [(flowO_len (S := S) (td := td) (k := ((kc : Int)).toNat) (o := (ifIn (x 2 ≤ x 2) (r.set ka (x 2, x 2))))).1]; exact Hh.out h) H8.out (by have h1 := (flowO_len (S := S) (td := td) (k := ((kc : Int)).toNat) (o := (ifIn (x 2 ≤ x 2) (r.set ka (x 2, x 2))))).2; have := Htd.out; omega) (HS3.out (.cells #[.int .i64 (A.1 + 1), .int .i64 (A.2)] 77)).sz); refine Calls.mono HW.out ?_; clear HW; rintro _ we2 ⟨rfl, vt2, hc2, hf2⟩; dsimp only) | go_values | go_skip | go_guarded | go_step | go_upon)
            go_end0
            refine ⟨rfl, vt2, ?_, (HS3.out (.cells #[.int .i64 (A.1 + 1), .int .i64 (A.2)] 77)).fr.trans hf2⟩
            rw [hF.out, hN.out, e3.out, ← ei.out]
            exact hc2
        · by_cases hB : A.2 = x 2
          · have hS : sameB A (x 2) = (A.1, A.2 - 1) := Prod.ext (by unfold sameB; dsimp only; rw [if_neg hA]) (by unfold sameB; dsimp only; rw [if_pos hB])
            have hN : Hid (goN of x r = ifIn ((A.1) ≤ (A.2 - 1)) (r.set ka (A.1, A.2 - 1))) := Lib.hid (by unfold goN; simp [Hop.out, hset.out, HA.out, hS])
            have hF : Hid (goF x r = ifIn (x 2 ≤ x 2) (r.set ka (x 2, x 2))) := Lib.hid (by unfold goF ifIn; simp [Hop.out, hset.out, HA.out, hlo, hhi])
            have Hh : Hid ((A.1) ≤ (A.2 - 1) → (0 : Int) ≤ (i : Int) + 1 ∧ (i : Int) + 1 < S.length) := Lib.hid fun h => Hl.out (by rw [hN.out]; unfold ifIn; rw [if_pos h]; simp)
            have t1 : (A.1 == x 2) = false := by simpa using hA
            have t2 : (A.2 == x 2) = true := by simpa using hB
            clear hA hB hS
            repeat' (first | (go_at_call 45; have HW := Lib.hid (ver_withP (S, td) ((kc : Int)) (x 2, x 2) ka _ HS.out.ck HS.out.wv Hka.out hka8 (fun _ => by have := Hkc.out; dsimp only; omega) H8.out (by have := Htd.out; dsimp only; omega) HS.out.sz); refine Calls.mono HW.out ?_; clear HW; rintro _ we ⟨rfl, vt1, hc1, hf1⟩; dsimp only; have HS2 := Lib.hid (HS.out.flow hf1 hc1); have HS3 : Hid (∀ o, SF B g b p v of vo vt1 (flowO (S, td) ((kc : Int)).toNat (ifIn (x 2 ≤ x 2) (r.set ka (x 2, x 2)))).1 (flowO (S, td) ((kc : Int)).toNat (ifIn (x 2 ≤ x 2) (r.set ka (x 2, x 2)))).2 w g5 g4 g2 g6 r x A (we.alloc o)) := Lib.hid fun o => HS2.out.keep ((Below.refl _ _).alloc (Nat.le_refl _) o); have r2 : ∀ o : Obj, (we.alloc o).cell? ⟨g4, 2, none⟩ = some (.int .i64 (x 2)) := fun o => (HS3.out o).wv.ins.cell 2 (by decide); clear HS hc1 hf1 s0 s1 s2 q0 q1 q2 q3 q4; obtain ⟨s0, s1, s2, q0, q1, q2, q3, q4⟩ := HS2.out.cells; rw [Hop.out] at q0; rw [Hka.out] at q1; rw [HkcE.out] at q3) | (go_at_call 45; have HW := Lib.hid (ver_withP (flowO (S, td) ((kc : Int)).toNat (ifIn (x 2 ≤ x 2) (r.set ka (x 2, x 2)))) ((i : Int) + 1) (A.1, A.2 - 1) ka _ (HS3.out (.cells #[.int .i64 (A.1), .int .i64 (A.2 - 1)] 77)).ck (HS3.out (.cells #[.int .i64 (A.1), .int .i64 (A.2 - 1)] 77)).wv Hka.out hka8 (fun h => by rw [(flowO_len (S := S) (td := td) (k := ((kc : Int)).toNat) (o := (ifIn (x 2 ≤ x 2) (r.set ka (x 2, x 2))))).1]; exact Hh.out h) H8.out (by have h1 := (flowO_len (S := S) (td := td) (k := ((kc : Int)).toNat) (o := (ifIn (x 2 ≤ x 2) (r.set ka (x 2, x 2))))).2; have := Htd.out; omega) (HS3.out (.cells #[.int .i64 (A.1), .int .i64 (A.2 - 1)] 77)).sz); refine Calls.mono HW.out ?_; clear HW; rintro _ we2 ⟨rfl, vt2, hc2, hf2⟩; dsimp only) | go_values | go_skip | go_guarded | go_step | go_upon)
            go_end0
            refine ⟨rfl, vt2, ?_, (HS3.out (.cells #[.int .i64 (A.1), .int .i64 (A.2 - 1)] 77)).fr.trans hf2⟩
            rw [hF.out, hN.out, e3.out, ← ei.out]
            exact hc2
          · have hS : sameB A (x 2) = (A.1, A.2) := Prod.ext (by unfold sameB; dsimp only; rw [if_neg hA]) (by unfold sameB; dsimp only; rw [if_neg hB])
            have hN : Hid (goN of x r = ifIn ((A.1) ≤ (A.2)) (r.set ka (A.1, A.2))) := Lib.hid (by unfold goN; simp [Hop.out, hset.out, HA.out, hS])
            have hF : Hid (goF x r = ifIn (x 2 ≤ x 2) (r.set ka (x 2, x 2))) := Lib.hid (by unfold goF ifIn; simp [Hop.out, hset.out, HA.out, hlo, hhi])
            have Hh : Hid ((A.1) ≤ (A.2) → (0 : Int) ≤ (i : Int) + 1 ∧ (i : Int) + 1 < S.length) := Lib.hid fun h => Hl.out (by rw [hN.out]; unfold ifIn; rw [if_pos h]; simp)
            have t1 : (A.1 == x 2) = false := by simpa using hA
            have t2 : (A.2 == x 2) = false := by simpa using hB
            clear hA hB hS
            repeat' (first | (go_at_call 45; have HW := Lib.hid (ver_withP (S, td) ((kc : Int)) (x 2, x 2) ka _ HS.out.ck HS.out.wv Hka.out hka8 (fun _ => by have := Hkc.out; dsimp only; omega) H8.out (by have := Htd.out; dsimp only; omega) HS.out.sz); refine Calls.mono HW.out ?_; clear HW; rintro _ we ⟨rfl, vt1, hc1, hf1⟩; dsimp only; have HS2 := Lib.hid (HS.out.flow hf1 hc1); have HS3 : Hid (∀ o, SF B g b p v of vo vt1 (flowO (S, td) ((kc : Int)).toNat (ifIn (x 2 ≤ x 2) (r.set ka (x 2, x 2)))).1 (flowO (S, td) ((kc : Int)).toNat (ifIn (x 2 ≤ x 2) (r.set ka (x 2, x 2)))).2 w g5 g4 g2 g6 r x A (we.alloc o)) := Lib.hid fun o => HS2.out.keep ((Below.refl _ _).alloc (Nat.le_refl _) o); have r2 : ∀ o : Obj, (we.alloc o).cell? ⟨g4, 2, none⟩ = some (.int .i64 (x 2)) := fun o => (HS3.out o).wv.ins.cell 2 (by decide); clear HS hc1 hf1 s0 s1 s2 q0 q1 q2 q3 q4; obtain ⟨s0, s1, s2, q0, q1, q2, q3, q4⟩ := HS2.out.cells; rw [Hop.out] at q0; rw [Hka.out] at q1; rw [HkcE.out] at q3) | (go_at_call 45; have HW := Lib.hid (ver_withP (flowO (S, td) ((kc : Int)).toNat (ifIn (x 2 ≤ x 2) (r.set ka (x 2, x 2)))) ((i : Int) + 1) (A.1, A.2) ka _ (HS3.out (.cells #[.int .i64 (A.1), .int .i64 (A.2)] 77)).ck (HS3.out (.cells #[.int .i64 (A.1), .int .i64 (A.2)] 77)).wv Hka.out hka8 (fun h => by rw [(flowO_len (S := S) (td := td) (k := ((kc : Int)).toNat) (o := (ifIn (x 2 ≤ x 2) (r.set ka (x 2, x 2))))).1]; exact Hh.out h) H8.out (by have h1 := (flowO_len (S := S) (td := td) (k := ((kc : Int)).toNat) (o := (ifIn (x 2 ≤ x 2) (r.set ka (x 2, x 2))))).2; have := Htd.out; omega) (HS3.out (.cells #[.int .i64 (A.1), .int .i64 (A.2)] 77)).sz); refine Calls.mono HW.out ?_; clear HW; rintro _ we2 ⟨rfl, vt2, hc2, hf2⟩; dsimp only) | go_values | go_skip | go_guarded | go_step | go_upon)
            go_end0
            refine ⟨rfl, vt2, ?_, (HS3.out (.cells #[.int .i64 (A.1), .int .i64 (A.2)] 77)).fr.trans hf2⟩
            rw [hF.out, hN.out, e3.out, ← ei.out]
            exact hc2
      · have hA : ¬ A.1 = x 2 := by omega
        have hB : ¬ A.2 = x 2 := by omega
        have hS : sameB A (x 2) = (A.1, A.2) := Prod.ext (by unfold sameB; dsimp only; rw [if_neg hA]) (by unfold sameB; dsimp only; rw [if_neg hB])
        have hN : Hid (goN of x r = ifIn ((A.1) ≤ (A.2)) (r.set ka (A.1, A.2))) := Lib.hid (by unfold goN; simp [Hop.out, hset.out, HA.out, hS])
        have hF : Hid (goF x r = none) := Lib.hid (by unfold goF ifIn; simp [Hop.out, HA.out]; omega)
        have Hh : Hid ((A.1) ≤ (A.2) → (0 : Int) ≤ (i : Int) + 1 ∧ (i : Int) + 1 < S.length) := Lib.hid fun h => Hl.out (by rw [hN.out]; unfold ifIn; rw [if_pos h]; simp)
        have t1 : (A.1 == x 2) = false := by simpa using hA
        have t2 : (A.2 == x 2) = false := by simpa using hB
        clear hA hB hS
        have HS3 : Hid (∀ o, SF B g b p v of vo vt S td w g5 g4 g2 g6 r x A (ws.alloc o)) := Lib.hid fun o => HS.out.keep ((Below.refl _ _).alloc (Nat.le_refl _) o)
        have r2 : ∀ o : Obj, (ws.alloc o).cell? ⟨g4, 2, none⟩ = some (.int .i64 (x 2)) := fun o => (HS3.out o).wv.ins.cell 2 (by decide)
        repeat' (first | (go_at_call 45; have HW := Lib.hid (ver_withP (S, td) ((i : Int) + 1) (A.1, A.2) ka _ (HS3.out (.cells #[.int .i64 (A.1), .int .i64 (A.2)] 77)).ck (HS3.out (.cells #[.int .i64 (A.1), .int .i64 (A.2)] 77)).wv Hka.out hka8 Hh.out H8.out (by have := Htd.out; dsimp only; omega) (HS3.out (.cells #[.int .i64 (A.1), .int .i64 (A.2)] 77)).sz); refine Calls.mono HW.out ?_; clear HW; rintro _ we ⟨rfl, vt1, hc1, hf1⟩; dsimp only) | go_values | go_skip | go_guarded | go_step | go_upon)
        go_end0
        refine ⟨rfl, vt1, ?_, (HS3.out (.cells #[.int .i64 (A.1), .int .i64 (A.2)] 77)).fr.trans hf1⟩
        rw [hF.out, hN.out, ← ei.out]
        exact hc1
    · have hA : ¬ A.1 = x 2 := by omega
      have hB : ¬ A.2 = x 2 := by omega
      have hS : sameB A (x 2) = (A.1, A.2) := Prod.ext (by unfold sameB; dsimp only; rw [if_neg hA]) (by unfold sameB; dsimp only; rw [if_neg hB])
      have hN : Hid (goN of x r = ifIn ((A.1) ≤ (A.2)) (r.set ka (A.1, A.2))) := Lib.hid (by unfold goN; simp [Hop.out, hset.out, HA.out, hS])
      have hF : Hid (goF x r = none) := Lib.hid (by unfold goF ifIn; simp [Hop.out, HA.out]; omega)
      have Hh : Hid ((A.1) ≤ (A.2) → (0 : Int) ≤ (i : Int) + 1 ∧ (i : Int) + 1 < S.length) := Lib.hid fun h => Hl.out (by rw [hN.out]; unfold ifIn; rw [if_pos h]; simp)
      have t1 : (A.1 == x 2) = false := by simpa using hA
      have t2 : (A.2 == x 2) = false := by simpa using hB
      clear hA hB hS
      have HS3 : Hid (∀ o, SF B g b p v of vo vt S td w g5 g4 g2 g6 r x A (ws.alloc o)) := Lib.hid fun o => HS.out.keep ((Below.refl _ _).alloc (Nat.le_refl _) o)
      have r2 : ∀ o : Obj, (ws.alloc o).cell? ⟨g4, 2, none⟩ = some (.int .i64 (x 2)) := fun o => (HS3.out o).wv.ins.cell 2 (by decide)
      repeat' (first | (go_at_call 45; have HW := Lib.hid (ver_withP (S, td) ((i : Int) + 1) (A.1, A.2) ka _ (HS3.out (.cells #[.int .i64 (A.1), .int .i64 (A.2)] 77)).ck (HS3.out (.cells #[.int .i64 (A.1), .int .i64 (A.2)] 77)).wv Hka.out hka8 Hh.out H8.out (by have := Htd.out; dsimp only; omega) (HS3.out (.cells #[.int .i64 (A.1), .int .i64 (A.2)] 77)).sz); refine Calls.mono HW.out ?_; clear HW; rintro _ we ⟨rfl, vt1, hc1, hf1⟩; dsimp only) | go_values | go_skip | go_guarded | go_step | go_upon)
      go_end0
      refine ⟨rfl, vt1, ?_, (HS3.out (.cells #[.int .i64 (A.1), .int .i64 (A.2)] 77)).fr.trans hf1⟩
      rw [hF.out, hN.out, ← ei.out]
      exact hc1
theorem ver_step {B : Nat} {p : Prg} {v : PV} {of : Rg} {vo vt : Value} {S : Sts} {td : List Nat} {g b : Nat} (i : Nat) (x : Nat → Int) (r : Rg) (w : World) (H : CK B g b p v of vo S td vt w) (HC : RowOf icL 5 w v.vc p.code) (hx : p.code[i]? = some x) (hr : S.getD i none = some r) (hi : i < S.length) (hn : S.length ≤ 4096)
    (hl : goN of x r ≠ none → i + 1 < S.length) (ho : okR r) (hK : XOk of x) (h2 : 0 ≤ x 2 ∧ x 2 ≤ 1073741824) (h3 : 0 ≤ x 3 ∧ x 3 < S.length) (h4 : x 0 = 8 → 0 ≤ x 4 ∧ x 4 < of.length) (htd : td.length ≤ 1000000000) (hB : B ≤ w.heap.size) :
    Calls Try.prog 28 #[.pointer (some ⟨g, 0, none⟩), .int .i64 (i : Int)] w fun e w' => e = .returned (.tuple #[]) ∧ ∃ vt', CK B g b p v of vo (flowO (flowO (S, td) (x 3).toNat (goF x r)) (i + 1) (goN of x r)).1 (flowO (flowO (S, td) (x 3).toNat (goF x r)) (i + 1) (goN of x r)).2 vt' w' ∧ FlowFr B w w' := by
  by_cases h5 : x 0 = 5
  · exact ver_step5 i x r w H HC hx h5 hr hi hn hl ho hK h2 h3 h4 htd hB
  · exact ver_stepA i x r w H HC hx h5 hr hi hn hl ho hK h2 h3 h4 htd hB
end Go.Proofs.Ytkpdcejnanhgoaa
