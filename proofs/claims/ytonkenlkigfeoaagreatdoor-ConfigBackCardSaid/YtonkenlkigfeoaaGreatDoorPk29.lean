/- A configuration that came in, opened: its expression's words are words. No conditions. -/
import Derived.Test.YtonkenlkigfeoaaGreatDoorPk28
import Derived.Test.YtonkenlkigfeoaaGreatDoorPk11
namespace Go.Proofs.YtonkenlkigfeoaaGreatDoor
open Go.RowKit Go.Deep
theorem cells_cf : Tryz.prog.cellsOf 34 = 13 := by kernel_rfl
theorem cells_sl1 : Tryz.prog.cellsOf 22 = 1 := by kernel_rfl
theorem cells_sl2 : Tryz.prog.cellsOf 30 = 1 := by kernel_rfl
theorem cells_sl3 : Tryz.prog.cellsOf 31 = 1 := by kernel_rfl
theorem cells_sl4 : Tryz.prog.cellsOf 32 = 1 := by kernel_rfl
theorem flat_rule : flat Tryz.prog 20 50 = some [.str, .str] := by kernel_rfl
theorem flat_rules : flat Tryz.prog 20 48 = some [.sl 48] := by kernel_rfl
theorem flat_mg17 : flat Tryz.prog 20 53 = some [.int .i64, .int .i64] := by kernel_rfl
theorem flat_str17 : flat Tryz.prog 20 9 = some [.str] := by kernel_rfl
theorem flat_int17 : flat Tryz.prog 20 3 = some [.int .i64] := by kernel_rfl
theorem list13 {α : Type} {l : List α} (h : l.length = 13) : ∃ a b c d e f g i j k m n o, l = [a, b, c, d, e, f, g, i, j, k, m, n, o] := by
 match l, h with
 | [a, b, c, d, e, f, g, i, j, k, m, n, o], _ => exact ⟨a, b, c, d, e, f, g, i, j, k, m, n, o, rfl⟩
theorem list2c {α : Type} {l : List α} (h : l.length = 2) : ∃ a b, l = [a, b] := by
 match l, h with
 | [a, b], _ => exact ⟨a, b, rfl⟩
theorem list1c {α : Type} {l : List α} (h : l.length = 1) : ∃ a, l = [a] := by
 match l, h with
 | [a], _ => exact ⟨a, rfl⟩
section
variable {H : Type} {enc : TypeId × Value → H} {w : World} {spare : Nat → Bool} {held : Bool}
theorem slice_rowsC {α : Type} {f : α → List Value} {G : α → Prop} {t e : TypeId} {n0 : Nat} {ks : List FK} (ht : Tryz.prog.underlying t = some (.slice e)) (hk : flat Tryz.prog n0 e = some ks) (hc : Tryz.prog.cellsOf e = ks.length) (hsz : 0 < ks.length)
   (hp : ∀ cs, AllOk enc Tryz.prog w 0 spare held ks cs → ∃ y, cs = f y ∧ G y) {fuel : Nat} {c : Value} {x : DataW H × List MemPlace}
   (h : DataW.trod enc Tryz.prog w 0 spare held fuel t [c] = some x) (hw : Light Tryz.prog t x.1) : ∃ ys : List α, RowOf f ks.length w c ys ∧ ∀ y ∈ ys, G y := by
 obtain ⟨n, xs, h1, _, h3⟩ := slice_open ht hk hc hsz h hw; have hl : xs.length = n * ks.length := by obtain ⟨_, _, _, _, _, h, _⟩ := h1; exact h
 obtain ⟨ys, e1, e2, e3⟩ := chunks (f := f) (G := G) n xs hl fun i hi => hp _ (h3 i hi)
 subst e1 e2; exact ⟨ys, h1, e3⟩
theorem rules_open {fuel : Nat} {c : Value} {x : DataW H × List MemPlace} (h : DataW.trod enc Tryz.prog w 0 spare held fuel 48 [c] = some x) (hw : Light Tryz.prog 48 x.1) : ∃ l : List RuleP, RowOf ruC 2 w c l := by
 obtain ⟨ys, h1, _⟩ := slice_rowsC (f := ruC) (G := fun _ => True) Tryz.underlying48 flat_rule (by kernel_rfl) (by decide) (fun cs ho => by
   obtain ⟨a, b, rfl⟩ := list2c ho.1; obtain ⟨z0, rfl, _⟩ := ho.2 0 _ a rfl rfl; obtain ⟨z1, rfl, _⟩ := ho.2 1 _ b rfl rfl
   exact ⟨(z0.data.toList, z1.data.toList), rfl, trivial⟩) h hw
 exact ⟨ys, h1⟩
theorem conf_openW {fuel : Nat} {cs : List Value} {x : DataW H × List MemPlace} (hx : DataW.trod enc Tryz.prog w 0 spare held fuel 34 cs = some x) (hw : Light Tryz.prog 34 x.1) : ∃ h r vp vm vn vb va c, cs = (cfC r vp vm vn vb va).toList ∧ CfAt w h r vp vm vn vb va c ∧ allW h c.re := by
 obtain ⟨xs, n, rfl, rfl, hl, hxl, hf⟩ := DataW.trod_struct Tryz.underlying34 hx; rw [cells_cf] at hl; obtain ⟨c0, c1, c2, c3, c4, c5, c6, c7, c8, c9, c10, c11, c12, rfl⟩ := list13 hl; have hxl6 : xs.length = 6 := hxl; have hfield : ∀ (i : Nat) f, #[(⟨"Passes", 22, 0, false, "", "", 0⟩ : Field), ⟨"Split", 29, 1, false, "", "", 24⟩, ⟨"Merges", 30, 9, false, "", "", 104⟩, ⟨"Names", 31, 10, false, "", "", 128⟩, ⟨"Before", 32, 11, false, "", "", 152⟩, ⟨"After", 32, 12, false, "", "", 176⟩][i]? = some f →
     ∃ y, DataW.trod enc Tryz.prog w 0 spare held n f.type (([c0, c1, c2, c3, c4, c5, c6, c7, c8, c9, c10, c11, c12].drop f.offset).take (Tryz.prog.cellsOf f.type)) = some y ∧ Light Tryz.prog f.type y.1 := fun i f hi => by
   have hil : i < 6 := by have := (Array.getElem?_eq_some_iff.1 hi).1; exact this
   have h1 := hf i f hi; have h2 := List.getElem?_eq_getElem (l := xs) (i := i) (by omega); exact ⟨_, h1.trans h2, hw.field Tryz.underlying34 hi (by rw [List.getElem?_map, h2]; rfl)⟩
 obtain ⟨y0, h0, l0⟩ := hfield 0 ⟨"Passes", 22, 0, false, "", "", 0⟩ rfl; obtain ⟨y1, h1, l1⟩ := hfield 1 ⟨"Split", 29, 1, false, "", "", 24⟩ rfl; obtain ⟨y2, h2, l2⟩ := hfield 2 ⟨"Merges", 30, 9, false, "", "", 104⟩ rfl; obtain ⟨y3, h3, l3⟩ := hfield 3 ⟨"Names", 31, 10, false, "", "", 128⟩ rfl; obtain ⟨y4, h4, l4⟩ := hfield 4 ⟨"Before", 32, 11, false, "", "", 152⟩ rfl; obtain ⟨y5, h5, l5⟩ := hfield 5 ⟨"After", 32, 12, false, "", "", 176⟩ rfl
 try dsimp only at h0 h1 h2 h3 h4 h5 l0 l1 l2 l3 l4 l5
 rw [cells_sl1] at h0; rw [cells_re] at h1; rw [cells_sl2] at h2; rw [cells_sl3] at h3; rw [cells_sl4] at h4 h5; simp only [List.drop_zero, List.drop_succ_cons, List.take_succ_cons, List.take_zero] at h0 h1 h2 h3 h4 h5; obtain ⟨r, t, er, hr, hra⟩ := re_openW n _ _ h1 l1
 obtain ⟨vs, p1, p2⟩ := slice_rowsC (f := oneC) (G := fun v => ∃ l : List RuleP, RowOf ruC 2 w v l) Tryz.underlying22 flat_rules (by kernel_rfl) (by decide) (fun cs ho => by
   obtain ⟨a, rfl⟩ := list1c ho.1; obtain ⟨m, y, hy, ly⟩ := ho.2 0 _ a rfl rfl
   exact ⟨a, rfl, rules_open hy ly⟩) h0 l0
 obtain ⟨ps, q1, q2⟩ := choose_list (Q := fun i (l : List RuleP) => ∀ u, vs[i]? = some u → RowOf ruC 2 w u l) vs.length (fun i hi => by
   obtain ⟨l, hl⟩ := p2 _ (List.getElem_mem hi)
   exact ⟨l, fun u hu => by rw [List.getElem?_eq_getElem hi] at hu; cases hu; exact hl⟩)
 obtain ⟨ms, p3, _⟩ := slice_rowsC (f := mgC) (G := fun _ => True) Tryz.underlying30 flat_mg17 (by kernel_rfl) (by decide) (fun cs ho => by
   obtain ⟨a, b, rfl⟩ := list2c ho.1; obtain ⟨z0, rfl, _⟩ := ho.2 0 _ a rfl rfl; obtain ⟨z1, rfl, _⟩ := ho.2 1 _ b rfl rfl
   exact ⟨(z0, z1), rfl, trivial⟩) h2 l2
 obtain ⟨ns, p4, _⟩ := slice_rowsC (f := strC) (G := fun _ => True) Tryz.underlying31 flat_str17 (by kernel_rfl) (by decide) (fun cs ho => by
   obtain ⟨a, rfl⟩ := list1c ho.1; obtain ⟨z0, rfl, _⟩ := ho.2 0 _ a rfl rfl
   exact ⟨z0.data.toList, rfl, trivial⟩) h3 l3
 have ints : ∀ {c : Value} {x : DataW H × List MemPlace}, DataW.trod enc Tryz.prog w 0 spare held n 32 [c] = some x → Light Tryz.prog 32 x.1 → ∃ l, RowOf intC 1 w c l := fun {c x} h hw => by
   obtain ⟨l, h1, _⟩ := slice_rowsC (f := intC) (G := fun _ => True) Tryz.underlying32 flat_int17 (by kernel_rfl) (by decide) (fun cs ho => by
     obtain ⟨a, rfl⟩ := list1c ho.1; obtain ⟨z0, rfl, _⟩ := ho.2 0 _ a rfl rfl
     exact ⟨z0, rfl, trivial⟩) h hw
   exact ⟨l, h1⟩
 obtain ⟨bf, p5⟩ := ints h4 l4; obtain ⟨af, p6⟩ := ints h5 l5; have er' := er; simp only [reC, List.cons.injEq, and_true] at er'; obtain ⟨rfl, rfl, rfl, rfl, rfl, rfl, rfl, rfl⟩ := er'; exact ⟨n, r, c0, c9, c10, c11, c12, ⟨ps, t, ms, ns, bf, af⟩, rfl, ⟨⟨vs, p1, by rw [q1], fun i u l hu hl => q2 i l hl u hu⟩, hr, p3, p4, p5, p6⟩, hra⟩
end
end Go.Proofs.YtonkenlkigfeoaaGreatDoor
