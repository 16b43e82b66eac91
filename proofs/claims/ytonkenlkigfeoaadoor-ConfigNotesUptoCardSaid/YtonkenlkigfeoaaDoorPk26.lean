/- A configuration as it lies in memory; whether it may be (plain). No conditions. -/
import Derived.Test.YtonkenlkigfeoaaDoorPk19
import Derived.Test.YtonkenlkigfeoaaDoorPk15
import Derived.Test.YtonkenlkigfeoaaDoorPk23
import Derived.Test.YtonkenlkigfeoaaDoorPk24
import Derived.Test.YtonkenlkigfeoaaDoorPk21
namespace Go.Proofs.YtonkenlkigfeoaaDoor
open Go.RowKit
/-- a configuration's cells -/
abbrev cfC (r : RN) (vp vm vn vb va : Value) : Array Value := #[vp, .int .i64 r.k, .int .u64 (r.s.1 : Nat), .int .u64 (r.s.2.1 : Nat), .int .u64 (r.s.2.2.1 : Nat), .int .u64 (r.s.2.2.2 : Nat), .int .i64 r.mn, .int .i64 r.mx, r.v, vm, vn, vb, va]
abbrev oneC (v : Value) : List Value := [v]
theorem oneC_len (v : Value) : (oneC v).length = 1 := rfl
/-- passes: a row of rows of rules -/
def PassesAt (w : World) (v : Value) (ps : List (List RuleP)) : Prop := ∃ vs : List Value, RowOf oneC 1 w v vs ∧ vs.length = ps.length ∧ ∀ (i : Nat) (u : Value) (l : List RuleP), vs[i]? = some u → ps[i]? = some l → RowOf ruC 2 w u l
structure CfAt (w : World) (h : Nat) (r : RN) (vp vm vn vb va : Value) (c : ConfP) : Prop where
 ps : PassesAt w vp c.ps
 re : ReAt w h r c.re
 ms : RowOf mgC 2 w vm c.ms
 ns : RowOf strC 1 w vn c.ns
 bf : RowOf intC 1 w vb c.bf
 af : RowOf intC 1 w va c.af
theorem CfAt.keep {w w' : World} {h : Nat} {r : RN} {vp vm vn vb va : Value} {c : ConfP} (H : CfAt w h r vp vm vn vb va c) (hb : Below w.heap.size w w') : CfAt w' h r vp vm vn vb va c := by
 obtain ⟨vs, h1, h2, h3⟩ := H.ps; exact ⟨⟨vs, h1.keep hb, h2, fun i u l hu hl => (h3 i u l hu hl).keep hb⟩, H.re.keep hb, H.ms.keep hb, H.ns.keep hb, H.bf.keep hb, H.af.keep hb⟩
def CBox (w : World) (g : Nat) (r : RN) (vp vm vn vb va : Value) : Prop := w.heap[g]? = some (.cells (cfC r vp vm vn vb va) 36 (0, 0))
section
variable {w w' : World} {g : Nat} {r : RN} {vp vm vn vb va : Value}
theorem CBox.new (w : World) (r : RN) (vp vm vn vb va : Value) : CBox (w.alloc (.cells (cfC r vp vm vn vb va) 36)) w.heap.size r vp vm vn vb va := Go.heap_alloc_new _ _
theorem CBox.lt (h : CBox w g r vp vm vn vb va) : g < w.heap.size := (Array.getElem?_eq_some_iff.1 h).1
theorem CBox.keep (h : CBox w g r vp vm vn vb va) (hb : Below w.heap.size w w') : CBox w' g r vp vm vn vb va := by
 unfold CBox; rw [hb.block g h.lt]; exact h
theorem CBox.cells (h : CBox w g r vp vm vn vb va) : w.cell? ⟨g, 0, none⟩ = some vp ∧ w.cell? ⟨g, 1, none⟩ = some (.int .i64 r.k) ∧ w.cell? ⟨g, 2, none⟩ = some (.int .u64 (r.s.1 : Nat)) ∧ w.cell? ⟨g, 3, none⟩ = some (.int .u64 (r.s.2.1 : Nat)) ∧ w.cell? ⟨g, 4, none⟩ = some (.int .u64 (r.s.2.2.1 : Nat)) ∧ w.cell? ⟨g, 5, none⟩ = some (.int .u64 (r.s.2.2.2 : Nat)) ∧
   w.cell? ⟨g, 6, none⟩ = some (.int .i64 r.mn) ∧ w.cell? ⟨g, 7, none⟩ = some (.int .i64 r.mx) ∧ w.cell? ⟨g, 8, none⟩ = some r.v ∧ w.cell? ⟨g, 9, none⟩ = some vm ∧ w.cell? ⟨g, 10, none⟩ = some vn ∧ w.cell? ⟨g, 11, none⟩ = some vb ∧ w.cell? ⟨g, 12, none⟩ = some va := by
 have q := fun k => cell_of_row w g k _ _ _ h
 exact ⟨q 0, q 1, q 2, q 3, q 4, q 5, q 6, q 7, q 8, q 9, q 10, q 11, q 12⟩
end
theorem rgt_shp {h : Nat} {t : Re} (e : rgt h t = 0) : shp h t = true := by
 unfold rgt at e
 by_cases h1 : 30 < dep h t
 · rw [if_pos h1] at e; exact absurd e (by decide)
 rw [if_neg h1] at e
 by_cases h2 : 512 < cnt h t
 · rw [if_pos h2] at e; exact absurd e (by decide)
 rw [if_neg h2] at e
 by_cases h3 : shp h t = true
 · exact h3
 · rw [if_neg h3] at e; exact absurd e (by decide)
/-- a frame that may not be -/
def frB (n : Nat) (l : List Int) : Prop := 32 < l.length ∨ l.any (noName n) = true
open Classical in
/-- may a configuration be? -/
noncomputable def confE (h : Nat) (c : ConfP) : Int :=
 if 4 < c.ps.length then 172 else if passE c.ps c.ps.length ≠ 0 then passE c.ps c.ps.length else if 32 < growAll c.ps c.ps.length then 172 else if rgt h c.re ≠ 0 then rgt h c.re else if 1000 < szR h c.re then 172
 else if textsE c.ms ≠ 0 then textsE c.ms else if 64 < c.ns.length then 172 else if namesBad c.ns then 172 else if frB c.ns.length c.bf ∨ frB c.ns.length c.af then 172 else 0
/-- the same, step by step -/
structure Steps (h : Nat) (c : ConfP) (R : Int) : Prop where
 s1 : 4 < c.ps.length → R = 172
 s2 : ¬ 4 < c.ps.length → ∀ k, k < c.ps.length → passE c.ps k = 0 → ruleE (c.ps.getD k []) ≠ 0 → R = ruleE (c.ps.getD k [])
 s3 : ¬ 4 < c.ps.length → passE c.ps c.ps.length = 0 → 32 < growAll c.ps c.ps.length → R = 172
 s4 : ¬ 4 < c.ps.length → passE c.ps c.ps.length = 0 → ¬ 32 < growAll c.ps c.ps.length → (rgt h c.re ≠ 0 → R = rgt h c.re) ∧ (rgt h c.re = 0 → (1000 < szR h c.re → R = 172) ∧ (¬ 1000 < szR h c.re → (textsE c.ms ≠ 0 → R = textsE c.ms) ∧
   (textsE c.ms = 0 → (64 < c.ns.length → R = 172) ∧ (¬ 64 < c.ns.length → (namesBad c.ns → R = 172) ∧ (¬ namesBad c.ns → (frB c.ns.length c.bf ∨ frB c.ns.length c.af → R = 172) ∧ (¬ (frB c.ns.length c.bf ∨ frB c.ns.length c.af) → R = 0))))))
theorem confE_steps (h : Nat) (c : ConfP) : Steps h c (confE h c) := by
 unfold confE; refine ⟨fun h1 => if_pos h1, fun h1 k hk h2 h3 => ?_, fun h1 h2 h3 => ?_, fun h1 h2 h3 => ?_⟩
 · have e := passE_step h2 h3 hk; rw [if_neg h1, if_pos (by rw [e]; exact h3), e]
 · rw [if_neg h1, if_neg (fun h => h h2), if_pos h3]
 · rw [if_neg h1, if_neg (fun h => h h2), if_neg h3]; refine ⟨fun h4 => if_pos h4, fun h4 => ?_⟩; rw [if_neg (fun h => h h4)]; refine ⟨fun h5 => if_pos h5, fun h5 => ?_⟩; rw [if_neg h5]; refine ⟨fun h6 => if_pos h6, fun h6 => ?_⟩; rw [if_neg (fun h => h h6)]; refine ⟨fun h7 => if_pos h7, fun h7 => ?_⟩; rw [if_neg h7]; refine ⟨fun h8 => if_pos h8, fun h8 => ?_⟩; rw [if_neg h8]; exact ⟨fun h9 => if_pos h9, fun h9 => if_neg h9⟩
theorem badN_iff {l : List (List UInt8)} {k : Nat} (hk : k < l.length) : (nam l k ∈ l.take k) ↔ ∃ j, j < k ∧ nam l j = nam l k := by
 constructor
 · intro h; obtain ⟨j, hj, e⟩ := List.getElem_of_mem h; rw [List.length_take] at hj; rw [List.getElem_take] at e; refine ⟨j, by omega, ?_⟩
   conv => lhs; unfold nam
   rw [List.getD_eq_getElem?_getD, List.getElem?_eq_getElem (by omega)]; exact e
 · rintro ⟨j, hj, e⟩; rw [← e]; refine List.mem_of_getElem? (i := j) ?_; rw [List.getElem?_take, if_pos hj]; unfold nam; rw [List.getD_eq_getElem?_getD, List.getElem?_eq_getElem (by omega)]; rfl
theorem pow_grow {k g n : Nat} (hk : k ≤ 3) (hg : g ≤ 32 ^ k) (hn : n ≤ 32) : g * n ≤ 1048576 := by
 have h1 : 32 ^ k ≤ 32 ^ 3 := Nat.pow_le_pow_right (by decide) hk; have h2 : g * n ≤ 32 ^ 3 * 32 := Nat.mul_le_mul (Nat.le_trans hg h1) hn; exact Nat.le_trans h2 (by decide)
open Go.RowKit
set_option maxRecDepth 100000 in
set_option maxHeartbeats 4000000 in
theorem config_Right (h : Nat) (r : RN) (vp vm vn vb va : Value) (c : ConfP) (w : World) (H : CfAt w h r vp vm vn vb va c) :
   Calls Tryd.prog 16 #[.agg (cfC r vp vm vn vb va)] w fun e w' => e = .returned (.int .i64 (confE h c)) ∧ Below w.heap.size w w' := by
 have HH := Lib.hid H; have HS := Lib.hid (confE_steps h c); generalize confE h c = R at HS ⊢; obtain ⟨vs, hvs, hvl, hvr⟩ := H.ps; obtain ⟨ap, cp, hpe, hpc, hpm, hpcell⟩ := hvs.open oneC_len; obtain ⟨an, cn, hne, hnc, hnm, hncell⟩ := H.ns.open strC_len17; obtain ⟨ab, cb, hbe, _, _, _⟩ := H.bf.open intC_len17; obtain ⟨aa, ca, hae, _, _, _⟩ := H.af.open intC_len17; subst hpe hne hbe hae; rw [hvl] at hpc hpcell HH; obtain ⟨np, hnp⟩ : ∃ n, c.ps.length = n := ⟨_, rfl⟩; obtain ⟨nn, hnn⟩ : ∃ n, c.ns.length = n := ⟨_, rfl⟩; obtain ⟨nb, hnb⟩ : ∃ n, c.bf.length = n := ⟨_, rfl⟩
 obtain ⟨na, hna⟩ : ∃ n, c.af.length = n := ⟨_, rfl⟩; rw [hvl]; rw [hnp, hnn, hnb, hna] at HH; rw [hnp] at hpc hpcell; rw [hnn] at hnc hncell; rw [hnp, hnn, hnb, hna]; have Hnp := Lib.hid hnp; have Hnn := Lib.hid hnn; have Hnb := Lib.hid hnb; have Hna := Lib.hid hna; have Hvr := Lib.hid hvr; have Hpc := Lib.hid hpcell; have Hnc := Lib.hid hncell; have Hvl := Lib.hid hvl; unfold maxLen at hpm hnm
 have HP : Hid (CBox (w.alloc (.cells (cfC r (.slice ap np cp) vm (.slice an nn cn) (.slice ab nb cb) (.slice aa na ca)) 36)) w.heap.size r (.slice ap np cp) vm (.slice an nn cn) (.slice ab nb cb) (.slice aa na ca)) := Lib.hid (CBox.new _ _ _ _ _ _ _); have Hb0 : Hid (Below w.heap.size w (w.alloc (.cells (cfC r (.slice ap np cp) vm (.slice an nn cn) (.slice ab nb cb) (.slice aa na ca)) 36))) := Lib.hid ((Below.refl _ _).alloc (Nat.le_refl _) _); obtain ⟨gc, hgc⟩ : ∃ g, g = w.heap.size := ⟨_, rfl⟩; have hgc' : w.heap.size ≤ gc := by omega
 clear H hvs hvl hvr hpcell hncell hnp hnn hnb hna
 by_cases h1 : 4 < np
 · have e := HS.out.s1 (by rw [Hnp.out]; exact h1); subst e; have h1' : (4 : Int) < np := by omega
   go_enter Tryd.func16, Tryd.ntmps16; wkk; go_ret; exact ⟨rfl, Hb0.out⟩
 have h1' : ¬ (4 : Int) < np := by omega
 have H2 : Hid (∀ k, k < np → passE c.ps k = 0 → ruleE (c.ps.getD k []) ≠ 0 → R = ruleE (c.ps.getD k [])) := Lib.hid fun k hk => HS.out.s2 (by rw [Hnp.out]; exact h1) k (by rw [Hnp.out]; exact hk)
 have H3 : Hid (passE c.ps np = 0 → 32 < growAll c.ps np → R = 172) := Lib.hid fun e => by have := HS.out.s3 (by rw [Hnp.out]; exact h1); rw [Hnp.out] at this; exact this e
 have H4 := Lib.hid (fun e e' => HS.out.s4 (by rw [Hnp.out]; exact h1) (by rw [Hnp.out]; exact e) (by rw [Hnp.out]; exact e')); clear HS; go_enter Tryd.func16, Tryd.ntmps16; wkk; rw [← hgc]; refine gen_worldS (fun W => CBox W gc r (.slice ap np cp) vm (.slice an nn cn) (.slice ab nb cb) (.slice aa na ca) ∧ Below w.heap.size w W) ⟨by rw [hgc]; exact HP.out, Hb0.out⟩ ?_; clear HP Hb0; rintro w1 ⟨hP1, hb1⟩; have HP := Lib.hid hP1; have HB := Lib.hid hb1; clear hP1 hb1 hgc
 go_loopg [3, 21] np (fun gk s3 s21 wr => ∃ (k g : Nat), s21 = .int .i64 k ∧ s3 = .int .i64 g ∧ k + gk = np ∧ Hid (passE c.ps k = 0 ∧ g = growAll c.ps k) ∧ Hid (CBox wr gc r (.slice ap np cp) vm (.slice an nn cn) (.slice ab nb cb) (.slice aa na ca)) ∧ Hid (Below w.heap.size w wr))
 case atStart => exact ⟨0, 1, rfl, rfl, by omega, Lib.hid ⟨rfl, rfl⟩, HP, HB⟩
 case round =>
   clear HP HB; obtain ⟨k, g, rfl, rfl, hk, HG, HP, HB⟩ := hrel
   by_cases hkn : k < np
   · have hkn' : (k : Int) < np := by omega
     rcases Hpc.out with h0 | ⟨b, off, rfl, hbB, hcell⟩
     · omega
     obtain ⟨u, hu⟩ : ∃ u, vs[k]? = some u := ⟨_, List.getElem?_eq_getElem (by rw [Hvl.out, Hnp.out]; exact hkn)⟩; obtain ⟨l, hl⟩ : ∃ l, c.ps[k]? = some l := ⟨_, List.getElem?_eq_getElem (by rw [Hnp.out]; exact hkn)⟩; have Hlk : Hid (c.ps.getD k [] = l) := Lib.hid (by rw [List.getD_eq_getElem?_getD, hl]; rfl); have c0 : wr.cell? ⟨b, off + k, none⟩ = some u := by
       have := hcell k u 0 hu (by decide); rw [Nat.mul_one, Nat.add_zero] at this; rw [HB.out.cell hbB]; exact this
     have hG := rule_Grow u l wr ((Hvr.out k u l hu hl).keep HB.out); have Hg32 := Lib.hid fun (e : ruleE l = 0) => (growTo_le e _ (Nat.le_refl _)).2
     have Hx := Lib.hid (H2.out k hkn HG.out.1); rw [Hlk.out] at Hx; have Hs1 : Hid (ruleE l = 0 → passE c.ps (k + 1) = 0) := Lib.hid fun e => by rw [passE, if_pos HG.out.1, Hlk.out, e]
     have Hs2 : Hid (growAll c.ps (k + 1) = g * growN l) := Lib.hid (by rw [growAll, Hlk.out, HG.out.2]); have Hgk : Hid (g ≤ 32 ^ k) := Lib.hid (by rw [HG.out.2]; exact growAll_le k (by omega) HG.out.1); obtain ⟨E, hE⟩ : ∃ E, ruleE l = E := ⟨_, rfl⟩; rw [hE] at hG Hg32 Hx Hs1; change Hid (E = 0 → growN l ≤ 32) at Hg32; obtain ⟨M, hM⟩ : ∃ M, growN l = M := ⟨_, rfl⟩; rw [hM] at hG Hg32 Hs2; clear hcell hu hl hE hM; wkk; refine Calls.mono (hG) ?_; rintro _ w2 ⟨m, rfl, hm, hb2⟩; dsimp only; have P2 := Lib.hid (HP.out.keep hb2); have B2 := Lib.hid (HB.out.trans (hb2.mono HB.out.size))
     clear hb2 HP HB hG c0
     by_cases he : E = 0
     · obtain rfl := hm he; have hM32 := Hg32.out he; have hpw := pow_grow (by omega) Hgk.out hM32; obtain ⟨q, hq⟩ : ∃ q : Nat, g * M = q := ⟨_, rfl⟩; have hw : IntKind.i64.wrap ((g : Int) * (M : Int)) = (q : Int) := by
         rw [← hq, Int.natCast_mul]; refine wi64 ?_; rw [← Int.natCast_mul]; unfold I64; omega
       have Hnx : Hid (passE c.ps (k + 1) = 0 ∧ q = growAll c.ps (k + 1)) := Lib.hid ⟨Hs1.out he, by rw [Hs2.out, hq]⟩; subst he; clear hm hpw hq Hs1 Hs2 Hx Hg32 Hgk HG hM32; wkk; go_roundg (gk - 1)
       case rel => exact ⟨k + 1, q, by go_num, rfl, by omega, Hnx, P2, B2⟩
       case measure => omega
     · have e := Hx.out he; have hne : (E != 0) = true := by rw [bne_iff_ne]; exact he
       subst e; clear hm Hs1 Hs2 Hx Hg32 Hgk HG; wkk; go_ret; exact ⟨rfl, B2.out⟩
   · obtain rfl : np = k := by omega
     obtain ⟨c0, c1, c2, c3, c4, c5, c6, c7, c8, c9, c10, c11, c12⟩ := HP.out.cells; have hge : growAll c.ps np = g := HG.out.2.symm; have Hx := Lib.hid (H3.out HG.out.1); have Hy := Lib.hid (H4.out HG.out.1); rw [hge] at Hy; rw [hge] at Hx; clear H2 H3 H4 HG hge Hpc Hvr Hvl
     by_cases hg : 32 < g
     · have e := Hx.out hg; subst e; have hg' : (32 : Int) < g := by omega
       wkk; go_ret; exact ⟨rfl, HB.out⟩
     have hg' : ¬ (32 : Int) < g := by omega
     have H4 := Lib.hid (Hy.out hg); clear Hx Hy hg; have hre := regex_Right h r c.re wr (HH.out.re.keep HB.out); have Hshp := Lib.hid fun (e : rgt h c.re = 0) => rgt_shp e
     generalize rgt h c.re = E1 at hre H4 Hshp; simp only [reV, reC] at hre; wkk; refine Calls.mono (hre) ?_; rintro _ w2 ⟨rfl, hb2⟩; dsimp only; have P2 := Lib.hid (HP.out.keep hb2); have B2 := Lib.hid (HB.out.trans (hb2.mono HB.out.size)); clear hb2 HP HB hre c0 c1 c2 c3 c4 c5 c6 c7 c8 c9 c10 c11 c12
     by_cases he : E1 = 0
     rotate_left
     · have e := H4.out.1 he; have hne : (E1 != 0) = true := by rw [bne_iff_ne]; exact he
       subst e; wkk; go_ret; exact ⟨rfl, B2.out⟩
     have H5 := Lib.hid (H4.out.2 he); have hshp := Hshp.out he; subst he; obtain ⟨c0, c1, c2, c3, c4, c5, c6, c7, c8, c9, c10, c11, c12⟩ := P2.out.cells; have hsz := config_size h r c.re w2 hshp (HH.out.re.keep B2.out); generalize szR h c.re = S at hsz H5; simp only [reV, reC] at hsz; clear H4 Hshp hshp; wkk; refine Calls.mono (hsz) ?_; rintro _ w3 ⟨rfl, hb3⟩; dsimp only; have P3 := Lib.hid (P2.out.keep hb3); have B3 := Lib.hid (B2.out.trans (hb3.mono B2.out.size)); clear hb3 P2 B2 hsz c0 c1 c2 c3 c4 c5 c6 c7 c8 c9 c10 c11 c12
     by_cases hS : 1000 < S
     · have e := H5.out.1 hS; subst e; wkk; go_ret; exact ⟨rfl, B3.out⟩
     have H6 := Lib.hid (H5.out.2 hS); obtain ⟨c0, c1, c2, c3, c4, c5, c6, c7, c8, c9, c10, c11, c12⟩ := P3.out.cells; have htx := merge_Right vm c.ms w3 (HH.out.ms.keep B3.out); generalize textsE c.ms = E2 at htx H6; clear H5; wkk; refine Calls.mono (htx) ?_; rintro _ w4 ⟨rfl, hb4⟩; dsimp only; have P4 := Lib.hid (P3.out.keep hb4); have B4 := Lib.hid (B3.out.trans (hb4.mono B3.out.size)); clear hb4 P3 B3 htx c0 c1 c2 c3 c4 c5 c6 c7 c8 c9 c10 c11 c12 hS
     by_cases he : E2 = 0
     rotate_left
     · have e := H6.out.1 he; have hne : (E2 != 0) = true := by rw [bne_iff_ne]; exact he
       subst e; wkk; go_ret; exact ⟨rfl, B4.out⟩
     have H7 := Lib.hid (H6.out.2 he); rw [Hnn.out] at H7; subst he; clear H6; obtain ⟨c0, c1, c2, c3, c4, c5, c6, c7, c8, c9, c10, c11, c12⟩ := P4.out.cells
     by_cases h64 : 64 < nn
     · have e := H7.out.1 h64; subst e; have h64' : (64 : Int) < nn := by omega
       wkk; go_ret; exact ⟨rfl, B4.out⟩
     have h64' : ¬ (64 : Int) < nn := by omega
     have H8 := Lib.hid (H7.out.2 h64); clear H7; wkk; clear c0 c1 c2 c3 c4 c5 c6 c7 c8 c9 c10 c11 c12 h1' hg' h64'
     go_loopg [62] nn (fun gk s62 wr => ∃ k : Nat, s62 = .int .i64 k ∧ k + gk = nn ∧ Hid (∀ i, i < k → ¬ badN c.ns i) ∧ Hid (CBox wr gc r (.slice ap np cp) vm (.slice an nn cn) (.slice ab nb cb) (.slice aa na ca)) ∧ Hid (Below w.heap.size w wr))
     case atStart => exact ⟨0, rfl, by omega, Lib.hid (fun i hi => by omega), P4, B4⟩
     case round =>
       clear P4 B4; obtain ⟨k, rfl, hk, HG, HP, HB⟩ := hrel; have c10 := HP.out.cells.2.2.2.2.2.2.2.2.2.2.1
       by_cases hkn : k < nn
       · have hkn' : (k : Int) < nn := by omega
         have hkc : (k : Int) ≤ cn := by omega
         have hns : RowOf strC 1 wr (.slice an nn cn) c.ns := HH.out.ns.keep HB.out; have hpre := hns.pre strC_len17 (k := k) (by rw [Hnn.out]; omega)
         rcases Hnc.out with h0 | ⟨b, off, rfl, hbB, hcell⟩
         · omega
         have hkl : k < c.ns.length := by rw [Hnn.out]; exact hkn
         have hx : c.ns[k]? = some (nam c.ns k) := by unfold nam; rw [List.getD_eq_getElem?_getD, List.getElem?_eq_getElem hkl]; rfl
         have c0 := str_cell hcell hx; rw [← HB.out.cell (show b < w.heap.size from hbB)] at c0; have hcon := contains_str (c.ns.take k) _ (nam c.ns k) wr hpre; rw [badN_iff hkl] at hcon; have Hb : Hid (badN c.ns k → R = 172) := Lib.hid fun hb => H8.out.1 ⟨k, hkl, hb⟩
         have Hnx : Hid (¬ badN c.ns k → ∀ i, i < k + 1 → ¬ badN c.ns i) := Lib.hid fun h i hi => by
           by_cases e : i = k
           · rw [e]; exact h
           · exact HG.out i (by omega)
         unfold badN at Hb Hnx; generalize (∃ j, j < k ∧ nam c.ns j = nam c.ns k) = PR at hcon Hb Hnx; generalize nam c.ns k = y at c0 hcon Hb Hnx; clear hcell hx hns hpre hkl
         by_cases hy0 : y = []
         · subst hy0; have e := Hb.out (.inl (Nat.lt_add_one 0)); subst e; wkk; go_ret; exact ⟨rfl, HB.out⟩
         have hyb : (y == []) = false := beq_false_of_ne hy0
         by_cases hy1 : 32 < y.length
         · have e := Hb.out (.inr (.inl hy1)); subst e; have hy1' : (32 : Int) < y.length := by omega
           wkk; go_ret; exact ⟨rfl, HB.out⟩
         have hy1' : ¬ (32 : Int) < y.length := by omega
         wkk; refine Calls.mono (hcon) ?_; rintro _ w5 ⟨⟨B, rfl, hBi⟩, hb5⟩; dsimp only; have P5 := Lib.hid (HP.out.keep hb5); have B5 := Lib.hid (HB.out.trans (hb5.mono HB.out.size)); clear hb5 HP HB hcon c0 c10
         cases B with
         | true =>
           have e := Hb.out (.inr (.inr (hBi.1 rfl))); subst e; clear hBi Hnx; wkk; go_ret; exact ⟨rfl, B5.out⟩
         | false =>
           have hng : ¬ PR := fun h => absurd (hBi.2 h) (by decide)
           have HG2 := Lib.hid (Hnx.out (by
             rintro (h | h | h)
             · exact hy0 (List.length_eq_zero_iff.1 (by omega))
             · exact hy1 h
             · exact hng h))
           clear hBi Hnx Hb hng HG; wkk; go_roundg (gk - 1)
           case rel => exact ⟨k + 1, by go_num, by omega, HG2, P5, B5⟩
           case measure => omega
       · obtain rfl : nn = k := by omega
         have H9 := Lib.hid (H8.out.2 (by
           rintro ⟨i, hi, hb⟩
           exact HG.out i (by rw [Hnn.out] at hi; exact hi) hb))
         obtain ⟨_, _, _, _, _, _, _, _, _, _, _, c11, c12⟩ := HP.out.cells; clear H8 HG Hnc; wkk; clear c10 c11 c12; have hHB := HB.out; have hJ := Go.heap_alloc_new wr (.cells #[.slice ab nb cb, .slice aa na ca] 22); have hbl := (Below.refl wr.heap.size wr).alloc (Nat.le_refl _) (.cells #[.slice ab nb cb, .slice aa na ca] 22); have HJ := Lib.hid hJ; have P6 := Lib.hid (HP.out.keep hbl); have B6 := Lib.hid (HB.out.trans (hbl.mono HB.out.size)); clear hJ hbl hHB HP HB; generalize wr.alloc (.cells #[.slice ab nb cb, .slice aa na ca] 22) = w6 at HJ P6 B6 ⊢
         generalize wr.heap.size = ga at HJ ⊢
         go_loopg [89] 2 (fun gk s89 wr => ∃ k : Nat, s89 = .int .i64 k ∧ k + gk = 2 ∧ Hid ((1 ≤ k → ¬ frB nn c.bf) ∧ (2 ≤ k → ¬ frB nn c.af)) ∧ Hid (wr.heap[ga]? = some (.cells #[.slice ab nb cb, .slice aa na ca] 22 (0, 0))) ∧ Hid (CBox wr gc r (.slice ap np cp) vm (.slice an nn cn) (.slice ab nb cb) (.slice aa na ca)) ∧ Hid (Below w.heap.size w wr))
         case atStart => exact ⟨0, rfl, rfl, Lib.hid ⟨fun h => absurd h (by omega), fun h => absurd h (by omega)⟩, HJ, P6, B6⟩
         case round =>
           clear HJ P6 B6; obtain ⟨k, rfl, hk, HG, HJ, HP, HB⟩ := hrel
           by_cases hk2 : k < 2
           · have hk3 : (k : Int) < 2 := by omega
             have hcj := fun j => cell_of_row wr ga j _ _ _ HJ.out
             obtain ⟨al, nl, cl, l, hc0, hrow, hll, Hbad, Hnx⟩ : ∃ (al : Option Addr) (nl cl : Nat) (l : List Int), wr.cell? ⟨ga, k, none⟩ = some (.slice al nl cl) ∧ RowOf intC 1 wr (.slice al nl cl) l ∧ l.length = nl ∧ Hid (frB nn l → R = 172) ∧ Hid (¬ frB nn l → (1 ≤ k + 1 → ¬ frB nn c.bf) ∧ (2 ≤ k + 1 → ¬ frB nn c.af)) := by
               rcases (by omega : k = 0 ∨ k = 1) with rfl | rfl
               · exact ⟨ab, nb, cb, c.bf, hcj 0, HH.out.bf.keep HB.out, Hnb.out, Lib.hid fun h => H9.out.1 (.inl h), Lib.hid fun h => ⟨fun _ => h, fun h' => absurd h' (by omega)⟩⟩
               · exact ⟨aa, na, ca, c.af, hcj 1, HH.out.af.keep HB.out, Hna.out, Lib.hid fun h => H9.out.1 (.inr h), Lib.hid fun h => ⟨fun _ => HG.out.1 (by omega), fun _ => h⟩⟩
             have hcon := contains_ci (noName nn) 40 #[.pointer (some ⟨gc, 0, none⟩)] enters_right1 l _ wr hrow (fun W hW x => right_1 x gc an nn cn W (HP.out.keep hW).cells.2.2.2.2.2.2.2.2.2.2.1); unfold frB at Hbad Hnx; rw [hll] at Hbad Hnx; clear hcj hll hrow
             by_cases h32 : 32 < nl
             · have e := Hbad.out (.inl h32); subst e; have h32' : (32 : Int) < nl := by omega
               wkk; go_ret; exact ⟨rfl, HB.out⟩
             have h32' : ¬ (32 : Int) < nl := by omega
             generalize l.any (noName nn) = B at hcon Hbad Hnx; wkk; refine Calls.mono (hcon) ?_; rintro _ w7 ⟨rfl, hb7⟩; dsimp only; have P7 := Lib.hid (HP.out.keep hb7); have J7 := Lib.hid ((hb7.block ga (Array.getElem?_eq_some_iff.1 HJ.out).1).trans HJ.out); have B7 := Lib.hid (HB.out.trans (hb7.mono HB.out.size)); clear hb7 HP HB HJ hcon hc0
             cases B with
             | true =>
               have e := Hbad.out (.inr rfl); subst e; wkk; go_ret; exact ⟨rfl, B7.out⟩
             | false =>
               have HG2 := Lib.hid (Hnx.out (by
                 rintro (h | h)
                 · exact h32 h
                 · cases h))
               clear Hnx Hbad HG; wkk; go_roundg (gk - 1)
               case rel => exact ⟨k + 1, by go_num, by omega, HG2, J7, P7, B7⟩
               case measure => omega
           · obtain rfl : k = 2 := by omega
             have e := H9.out.2 (by
               rintro (h | h)
               · exact HG.out.1 (by omega) h
               · exact HG.out.2 (by omega) h)
             subst e; wkk; go_ret; exact ⟨rfl, HB.out⟩
end Go.Proofs.YtonkenlkigfeoaaDoor
