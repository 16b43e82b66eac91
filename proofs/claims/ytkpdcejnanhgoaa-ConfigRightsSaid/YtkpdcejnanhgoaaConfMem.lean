/- A configuration as it lies in memory; whether it may be (plain). No conditions. -/
import Derived.Test.YtkpdcejnanhgoaaConfRefRule
import Derived.Test.YtkpdcejnanhgoaaConfSize
import Derived.Test.YtkpdcejnanhgoaaConfMerge
import Derived.Test.YtkpdcejnanhgoaaConfSmall
import Derived.Test.YtkpdcejnanhgoaaReRight
import Derived.Test.YtkpdcejnanhgoaaRegexRights
namespace Go.Proofs.Ytkpdcejnanhgoaa
open Go.RowKit
/-- a configuration's cells -/
abbrev cfC (r : RN) (vp vm vn vb va : Value) : Array Value := #[vp, .int .i64 r.k, .int .u64 (r.s.1 : Nat), .int .u64 (r.s.2.1 : Nat), .int .u64 (r.s.2.2.1 : Nat), .int .u64 (r.s.2.2.2 : Nat), .int .i64 r.mn, .int .i64 r.mx, r.v, vm, vn, vb, va]
abbrev oneC (v : Value) : List Value := [v]
theorem oneC_len (v : Value) : (oneC v).length = 1 := rfl
/-- passes: a row of rows of rules -/
def PassesAt (w : World) (v : Value) (ps : List (List RuleP)) : Prop := ∃ vs : List Value, RowOf oneC 1 w v vs ∧ vs.length = ps.length ∧ ∀ (i : Nat) (u : Value) (l : List RuleP), vs[i]? = some u → ps[i]? = some l → RowOf ruC 2 w u l
structure CfAt (w : World) (h : Nat) (r : RN) (vp vm vn vb va : Value) (c : ConfP) : Prop where
  ps : PassesAt w vp c.ps
  re : ReAt w h r c.re
  ms : RowOf mgC 2 w vm c.ms
  ns : RowOf strC 1 w vn c.ns
  bf : RowOf intC 1 w vb c.bf
  af : RowOf intC 1 w va c.af
theorem CfAt.keep {w w' : World} {h : Nat} {r : RN} {vp vm vn vb va : Value} {c : ConfP} (H : CfAt w h r vp vm vn vb va c) (hb : Below w.heap.size w w') : CfAt w' h r vp vm vn vb va c := by
  obtain ⟨vs, h1, h2, h3⟩ := H.ps
  exact ⟨⟨vs, h1.keep hb, h2, fun i u l hu hl => (h3 i u l hu hl).keep hb⟩, H.re.keep hb, H.ms.keep hb, H.ns.keep hb, H.bf.keep hb, H.af.keep hb⟩
def CBox (w : World) (g : Nat) (r : RN) (vp vm vn vb va : Value) : Prop := w.heap[g]? = some (.cells (cfC r vp vm vn vb va) 34 (0, 0))
section
variable {w w' : World} {g : Nat} {r : RN} {vp vm vn vb va : Value}
theorem CBox.new (w : World) (r : RN) (vp vm vn vb va : Value) : CBox (w.alloc (.cells (cfC r vp vm vn vb va) 34)) w.heap.size r vp vm vn vb va := Go.heap_alloc_new _ _
theorem CBox.lt (h : CBox w g r vp vm vn vb va) : g < w.heap.size := (Array.getElem?_eq_some_iff.1 h).1
theorem CBox.keep (h : CBox w g r vp vm vn vb va) (hb : Below w.heap.size w w') : CBox w' g r vp vm vn vb va := by
  unfold CBox; rw [hb.block g h.lt]; exact h
theorem CBox.cells (h : CBox w g r vp vm vn vb va) : w.cell? ⟨g, 0, none⟩ = some vp ∧ w.cell? ⟨g, 1, none⟩ = some (.int .i64 r.k) ∧ w.cell? ⟨g, 2, none⟩ = some (.int .u64 (r.s.1 : Nat)) ∧ w.cell? ⟨g, 3, none⟩ = some (.int .u64 (r.s.2.1 : Nat)) ∧ w.cell? ⟨g, 4, none⟩ = some (.int .u64 (r.s.2.2.1 : Nat)) ∧ w.cell? ⟨g, 5, none⟩ = some (.int .u64 (r.s.2.2.2 : Nat)) ∧
    w.cell? ⟨g, 6, none⟩ = some (.int .i64 r.mn) ∧ w.cell? ⟨g, 7, none⟩ = some (.int .i64 r.mx) ∧ w.cell? ⟨g, 8, none⟩ = some r.v ∧ w.cell? ⟨g, 9, none⟩ = some vm ∧ w.cell? ⟨g, 10, none⟩ = some vn ∧ w.cell? ⟨g, 11, none⟩ = some vb ∧ w.cell? ⟨g, 12, none⟩ = some va := by
  have q := fun k => cell_of_row w g k _ _ _ h
  exact ⟨q 0, q 1, q 2, q 3, q 4, q 5, q 6, q 7, q 8, q 9, q 10, q 11, q 12⟩
end
theorem rgt_shp {h : Nat} {t : Re} (e : rgt h t = 0) : shp h t = true := by
  unfold rgt at e
  by_cases h1 : 30 < dep h t
  · rw [if_pos h1] at e; exact absurd e (by decide)
  rw [if_neg h1] at e
  by_cases h2 : 512 < cnt h t
  · rw [if_pos h2] at e; exact absurd e (by decide)
  rw [if_neg h2] at e
  by_cases h3 : shp h t = true
  · exact h3
  · rw [if_neg h3] at e; exact absurd e (by decide)
/-- a frame that may not be -/
def frB (n : Nat) (l : List Int) : Prop := 32 < l.length ∨ l.any (noName n) = true
open Classical in
/-- may a configuration be? -/
noncomputable def confE (h : Nat) (c : ConfP) : Int :=
  if 4 < c.ps.length then 172 else if passE c.ps c.ps.length ≠ 0 then passE c.ps c.ps.length else if 32 < growAll c.ps c.ps.length then 172 else if rgt h c.re ≠ 0 then rgt h c.re else if 1000 < szR h c.re then 172
  else if textsE c.ms ≠ 0 then textsE c.ms else if 64 < c.ns.length then 172 else if namesBad c.ns then 172 else if frB c.ns.length c.bf ∨ frB c.ns.length c.af then 172 else 0
/-- the same, step by step -/
structure Steps (h : Nat) (c : ConfP) (R : Int) : Prop where
  s1 : 4 < c.ps.length → R = 172
  s2 : ¬ 4 < c.ps.length → ∀ k, k < c.ps.length → passE c.ps k = 0 → ruleE (c.ps.getD k []) ≠ 0 → R = ruleE (c.ps.getD k [])
  s3 : ¬ 4 < c.ps.length → passE c.ps c.ps.length = 0 → 32 < growAll c.ps c.ps.length → R = 172
  s4 : ¬ 4 < c.ps.length → passE c.ps c.ps.length = 0 → ¬ 32 < growAll c.ps c.ps.length → (rgt h c.re ≠ 0 → R = rgt h c.re) ∧ (rgt h c.re = 0 → (1000 < szR h c.re → R = 172) ∧ (¬ 1000 < szR h c.re → (textsE c.ms ≠ 0 → R = textsE c.ms) ∧
    (textsE c.ms = 0 → (64 < c.ns.length → R = 172) ∧ (¬ 64 < c.ns.length → (namesBad c.ns → R = 172) ∧ (¬ namesBad c.ns → (frB c.ns.length c.bf ∨ frB c.ns.length c.af → R = 172) ∧ (¬ (frB c.ns.length c.bf ∨ frB c.ns.length c.af) → R = 0))))))
theorem confE_steps (h : Nat) (c : ConfP) : Steps h c (confE h c) := by
  unfold confE
  refine ⟨fun h1 => if_pos h1, fun h1 k hk h2 h3 => ?_, fun h1 h2 h3 => ?_, fun h1 h2 h3 => ?_⟩
  · have e := passE_step h2 h3 hk
    rw [if_neg h1, if_pos (by rw [e]; exact h3), e]
  · rw [if_neg h1, if_neg (fun h => h h2), if_pos h3]
  · rw [if_neg h1, if_neg (fun h => h h2), if_neg h3]
    refine ⟨fun h4 => if_pos h4, fun h4 => ?_⟩
    rw [if_neg (fun h => h h4)]
    refine ⟨fun h5 => if_pos h5, fun h5 => ?_⟩
    rw [if_neg h5]
    refine ⟨fun h6 => if_pos h6, fun h6 => ?_⟩
    rw [if_neg (fun h => h h6)]
    refine ⟨fun h7 => if_pos h7, fun h7 => ?_⟩
    rw [if_neg h7]
    refine ⟨fun h8 => if_pos h8, fun h8 => ?_⟩
    rw [if_neg h8]
    exact ⟨fun h9 => if_pos h9, fun h9 => if_neg h9⟩
theorem badN_iff {l : List (List UInt8)} {k : Nat} (hk : k < l.length) : (nam l k ∈ l.take k) ↔ ∃ j, j < k ∧ nam l j = nam l k := by
  constructor
  · intro h
    obtain ⟨j, hj, e⟩ := List.getElem_of_mem h
    rw [List.length_take] at hj
    rw [List.getElem_take] at e
    refine ⟨j, by omega, ?_⟩
    conv => lhs; unfold nam
    rw [List.getD_eq_getElem?_getD, List.getElem?_eq_getElem (by omega)]
    exact e
  · rintro ⟨j, hj, e⟩
    rw [← e]
    refine List.mem_of_getElem? (i := j) ?_
    rw [List.getElem?_take, if_pos hj]
    unfold nam
    rw [List.getD_eq_getElem?_getD, List.getElem?_eq_getElem (by omega)]; rfl
theorem pow_grow {k g n : Nat} (hk : k ≤ 3) (hg : g ≤ 32 ^ k) (hn : n ≤ 32) : g * n ≤ 1048576 := by
  have h1 : 32 ^ k ≤ 32 ^ 3 := Nat.pow_le_pow_right (by decide) hk
  have h2 : g * n ≤ 32 ^ 3 * 32 := Nat.mul_le_mul (Nat.le_trans hg h1) hn
  exact Nat.le_trans h2 (by decide)
end Go.Proofs.Ytkpdcejnanhgoaa
