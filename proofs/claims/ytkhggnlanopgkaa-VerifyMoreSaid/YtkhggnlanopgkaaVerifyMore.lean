/- Walk: the statement VerifyMore. Conditions: the arguments lie in memory. -/
import Derived.Test.YtkhggnlanopgkaaMoreMem
import Derived.Test.YtkhggnlanopgkaaTexts13
import Derived.Test.YtkhggnlanopgkaaCount
namespace Go.Proofs.Ytkhggnlanopgkaa
open Go.RowKit
set_option maxRecDepth 100000 in
theorem law23_alive (w : World) : Calls Try.prog 14 #[] w fun e w' => e = .returned (.bool true) ∧ Below w.heap.size w w' := by
  have h := fun w => utf_Count ⟨#[97]⟩ (by decide) w
  rw [count_a] at h
  go_enter Try.func14, Try.ntmps14
  repeat' (first | go_values | go_skip | go_guarded | go_step | go_upon)
  refine Calls.mono (h _) ?_
  rintro _ w1 ⟨rfl, hb⟩
  dsimp only
  repeat' (first | go_values | go_skip | go_guarded | go_step | go_upon)
  go_ret
  exact ⟨rfl, hb⟩
theorem ck_zero {p : Prg} (h : (checkI p).1 = 0) : checkI p = (0, 0) := by
  by_cases hs : (shapeI p).1 = 0
  · have e : checkI p = wrongI p (solP p) := by unfold checkI; rw [if_pos hs]
    rw [e] at h ⊢
    rcases wrong_cases p (solP p) with h' | ⟨k, _, h'⟩
    · exact h'
    · rw [h'] at h; simp at h
  · rw [check_shape hs] at h; exact absurd h hs
theorem mw_start {w w3 : World} {p : Prg} {V : PV} (hP : PBox w3 w.heap.size p V) (hB : Below w.heap.size w w3) : MW w p V w.heap.size w3.heap.size p.signs V.vc V.vt V.vx (w3.alloc (.cells (pgC p V) 30)) :=
  ⟨hB.alloc hB.size _, Nat.le_refl _, hB.size, by have := hP.lt; omega, hP.keep ((Below.refl _ _).alloc (Nat.le_refl _) _), PBox.new w3 p V⟩
theorem own_one1 {α : Type} {f : α → List Value} {sz B : Nat} {e : TypeId} (W : World) (x : α) (hf : ∀ y, (f y).length = sz) (hB : B ≤ W.heap.size) : OwnR f sz B e (W.alloc (.cells (f x).toArray e)) (.slice (some ⟨W.heap.size, 0, none⟩) 1 1) [x] :=
  ⟨by simp [hf], .inr ⟨W.heap.size, 1, (f x).toArray, (0, 0), rfl, hB, Go.heap_alloc_new _ _, fun j _ h => by simp at h, Nat.le_refl _, by decide, by simp [hf], by rw [List.length_singleton, Nat.one_mul, List.flatMap_cons, List.flatMap_nil, List.append_nil]; exact List.take_of_length_le (by simp [hf])⟩⟩
theorem MW.other {w0 w : World} {p : Prg} {V : PV} {g4 g11 : Nat} {sg : Int} {vc vt vx : Value} (h : MW w0 p V g4 g11 sg vc vt vx w) {g k : Nat} {c : Int} {v u : Value} (ht : TBox w g c v) (hg : w0.heap.size ≤ g) : MW w0 p V g4 g11 sg vc vt vx (w.setCell ⟨g, k, none⟩ u) := by
  have n1 : g4 ≠ g := fun e => by
    have h1 := h.box
    unfold PBox at h1
    rw [e, show w.heap[g]? = _ from ht] at h1
    simp at h1
  have n2 : g11 ≠ g := fun e => by
    have h1 := h.qb
    unfold PBox at h1
    rw [e, show w.heap[g]? = _ from ht] at h1
    simp at h1
  refine ⟨h.bel.setCell hg _, h.b4, h.b11, h.ne, ?_, ?_⟩
  · unfold PBox; rw [heap_setCell_other _ _ _ _ (by dsimp only; omega)]; exact h.box
  · unfold PBox; rw [heap_setCell_other _ _ _ _ (by dsimp only; omega)]; exact h.qb
theorem TBox.set1 {w : World} {g : Nat} {c : Int} {v : Value} (h : TBox w g c v) (u : Value) : TBox (w.setCell ⟨g, 1, none⟩ u) g c u := by
  unfold TBox; rw [setCell_eq_setRow w g 1 _ _ _ _ h]; exact setRow_heap _ _ _ _ _ _ h
theorem TBox.set6 {w : World} {g g11 k : Nat} {c : Int} {v u : Value} {p : Prg} {V : PV} (h : TBox w g c v) (hq : PBox w g11 p V) : TBox (w.setCell ⟨g11, k, none⟩ u) g c v := by
  have n2 : g ≠ g11 := fun e => by
    unfold PBox at hq
    rw [← e, show w.heap[g]? = _ from h] at hq
    simp at hq
  unfold TBox; rw [heap_setCell_other _ _ _ _ (by dsimp only; omega)]; exact h
theorem OwnR.tab {α : Type} {f : α → List Value} {sz B : Nat} {e : TypeId} {w : World} {v : Value} {l : List α} {g k : Nat} {c : Int} {v' u : Value} (h : OwnR f sz B e w v l) (hq : TBox w g c v') (he : 37 ≠ e) : OwnR f sz B e (w.setCell ⟨g, k, none⟩ u) v l :=
  h.setOther fun k' hk' e' => by
    subst e'
    obtain ⟨cs, fz, hb⟩ := h.typed hk'
    rw [show w.heap[k']? = _ from hq] at hb
    simp at hb
    exact he hb.2.1
theorem tab_start {w wb : World} {p : Prg} {V : PV} {g4 g11 : Nat} {sg : Int} {vc vt vx : Value} {l : List (List UInt8)} (h : MW w p V g4 g11 sg vc vt vx wb) (hx : OwnR strC 1 w.heap.size 9 wb vx l) :
    MW w p V g4 g11 sg vc vt vx ((wb.alloc (.cells #[.int .i64 1] 3)).alloc (.cells #[.int .i64 1, .slice (some ⟨wb.heap.size, 0, none⟩) 1 1] 37)) ∧
    OwnR strC 1 w.heap.size 9 ((wb.alloc (.cells #[.int .i64 1] 3)).alloc (.cells #[.int .i64 1, .slice (some ⟨wb.heap.size, 0, none⟩) 1 1] 37)) vx l ∧
    TBox ((wb.alloc (.cells #[.int .i64 1] 3)).alloc (.cells #[.int .i64 1, .slice (some ⟨wb.heap.size, 0, none⟩) 1 1] 37)) (wb.heap.size + 1) 1 (.slice (some ⟨wb.heap.size, 0, none⟩) 1 1) ∧
    OwnR intC 1 w.heap.size 3 ((wb.alloc (.cells #[.int .i64 1] 3)).alloc (.cells #[.int .i64 1, .slice (some ⟨wb.heap.size, 0, none⟩) 1 1] 37)) (.slice (some ⟨wb.heap.size, 0, none⟩) 1 1) [1] := by
  have o1 : OwnR intC 1 w.heap.size 3 (wb.alloc (.cells #[.int .i64 1] 3)) (.slice (some ⟨wb.heap.size, 0, none⟩) 1 1) [1] := own_one1 (f := intC) wb 1 intC_len h.bel.size
  have b1 : Below wb.heap.size wb (wb.alloc (.cells #[.int .i64 1] 3)) := (Below.refl _ _).alloc (Nat.le_refl _) _
  have s1 : (wb.alloc (.cells #[.int .i64 1] 3)).heap.size = wb.heap.size + 1 := World.size_alloc _ _
  generalize wb.alloc (.cells #[.int .i64 1] 3) = wc at *
  have b2 : Below wc.heap.size wc (wc.alloc (.cells #[.int .i64 1, .slice (some ⟨wb.heap.size, 0, none⟩) 1 1] 37)) := (Below.refl _ _).alloc (Nat.le_refl _) _
  exact ⟨(h.keep b1).keep b2, (hx.keep b1 (Nat.le_refl _)).keep b2 (Nat.le_refl _), by rw [← s1]; exact TBox.new _ _ _, o1.keep b2 (Nat.le_refl _)⟩
theorem genU {P : Program} {md : Region.Mode} {ops : Array Oper} {C : World → Prop} {u : Nat} {Q : Exit → Act → World → Prop} {fuel : Nat} {listed : Array Bool} {a : Act} {w : World} (F : World → Prop) (hF : F w) (h : ∀ w', F w' → wpAnyU P md ops C u Q fuel listed a w') : wpAnyU P md ops C u Q fuel listed a w := h w hF
theorem info_tabM : (Try.prog.info? 37).map (fun i => (i.zero, i.size, i.bytes)) = some (some (.agg #[.int .i64 0, .slice none 0 0]), 2, 32) := by kernel_rfl
theorem tbC_lenM (y : Int × Value) : (tbC y).length = 2 := rfl
theorem tabs_one {w : World} {v : Value} {ts : List (Int × Value)} {l : List (Int × List Int)} (_ : RowOf tbC 2 w v ts) (hl : ts.length = l.length) (h : ∀ (i : Nat) t d, ts[i]? = some t → l[i]? = some d → t.1 = d.1 ∧ I64 d.1 ∧ RowOf intC 1 w t.2 d.2) : ∀ y, y ∈ ts → ∀ u ∈ tbC y, u.oneCell' = true := by
  intro y hy u hu
  obtain ⟨i, hi, rfl⟩ := List.getElem_of_mem hy
  obtain ⟨_, _, hr⟩ := h i _ _ (List.getElem?_eq_getElem hi) (List.getElem?_eq_getElem (by omega))
  obtain ⟨a, c, e, _⟩ := hr.slice
  simp [tbC] at hu
  rcases hu with rfl | rfl
  · rfl
  · rw [e]; rfl
theorem info_insM : (Try.prog.info? 39).map (fun i => (i.zero, i.size, i.bytes)) = some (some (.agg #[.int .i64 0, .int .i64 0, .int .i64 0, .int .i64 0, .int .i64 0]), 5, 40) := by kernel_rfl
theorem icL_oneM (y : Nat → Int) : ∀ u ∈ icL y, u.oneCell' = true := by intro u hu; simp [icL] at hu; rcases hu with rfl | rfl | rfl | rfl | rfl <;> rfl
theorem ins5 {w : World} {b off : Nat} {l : List (Nat → Int)} (h : ∀ (i : Nat) (x : Nat → Int) (j : Nat), l[i]? = some x → j < 5 → w.cell? ⟨b, off + (i * 5 + j), none⟩ = (icL x)[j]?) (k : Nat) (hk : k < l.length) :
    w.cell? ⟨b, off + k * 5, none⟩ = some (.int .i64 (l.getD k k2 0)) ∧ w.cell? ⟨b, off + k * 5 + 1, none⟩ = some (.int .i64 (l.getD k k2 1)) ∧ w.cell? ⟨b, off + k * 5 + 2, none⟩ = some (.int .i64 (l.getD k k2 2)) ∧ w.cell? ⟨b, off + k * 5 + 3, none⟩ = some (.int .i64 (l.getD k k2 3)) ∧ w.cell? ⟨b, off + k * 5 + 4, none⟩ = some (.int .i64 (l.getD k k2 4)) := by
  have hx : l[k]? = some (l.getD k k2) := by rw [List.getD_eq_getElem?_getD, List.getElem?_eq_getElem hk]; rfl
  exact ⟨h k _ 0 hx (by decide), h k _ 1 hx (by decide), h k _ 2 hx (by decide), h k _ 3 hx (by decide), h k _ 4 hx (by decide)⟩
theorem info_strM : (Try.prog.info? 9).map (fun i => (i.zero, i.size, i.bytes)) = some (some (.string ⟨#[]⟩), 1, 16) := by kernel_rfl
theorem info_intM : (Try.prog.info? 3).map (fun i => (i.zero, i.size, i.bytes)) = some (some (.int .i64 0), 1, 8) := by kernel_rfl
theorem strC_one (y : List UInt8) : ∀ u ∈ strC y, u.oneCell' = true := by intro u hu; simp [strC] at hu; subst hu; rfl
set_option maxRecDepth 100000 in
set_option maxHeartbeats 8000000 in
theorem walk_VerifyMore (p : Prg) (V : PV) (w : World) (H : PrgAt w V p) (tx : List UInt8) (htx : tx.length ≤ 140737488351232) (v2 : Value) (zs : List Int) (h2 : RdI w.heap.size .i64 w v2 zs) (hz2 : zs.length ≤ 140737488351232)
    (v3 : Value) (xs : List (Nat → Int)) (h3 : RowOf icL 5 w v3 xs) :
    Calls Try.prog 6 #[pgV p V, .string ⟨tx.toArray⟩, v2, v3] w fun e w' => e = .returned (.bool true) ∧ Below w.heap.size w w' := by
  have HH := Lib.hid H
  obtain ⟨ac, cc, hvc, hcc, hmc, hcellc⟩ := H.code.open icL_len
  obtain ⟨ts, hts, htl, htr⟩ := H.tabs
  obtain ⟨at', ct, hvt, hct, hmt, _⟩ := hts.open (f := tbC) (sz := 2) (fun _ => rfl)
  obtain ⟨ax, cx, hvx, hcx, hmx, _⟩ := H.texts.open strC_len
  obtain ⟨as0, cs, hvs, _, _⟩ := H.hash.seeds.slice
  obtain ⟨ak, ck, hvk, _, _⟩ := H.hash.keys.slice
  obtain ⟨av, cv, hvv, _, _⟩ := H.hash.vals.slice
  obtain ⟨vc, vt, vx, vs, vk, vv⟩ := V
  dsimp only at hvc hvt hvx hts hvs hvk hvv
  subst hvc hvt hvx
  generalize p.hash.seeds.length = ns at hvs
  generalize p.hash.keys.length = nk at hvk
  generalize p.hash.vals.length = nv at hvv
  obtain ⟨n, hn⟩ : ∃ n, n = p.code.length := ⟨_, rfl⟩
  obtain ⟨m, hm⟩ : ∃ m, m = ts.length := ⟨_, rfl⟩
  obtain ⟨q, hq⟩ : ∃ q, q = p.texts.length := ⟨_, rfl⟩
  have Htabs := Lib.hid (And.intro hts (And.intro htl htr))
  have HRc := Lib.hid H.code
  have HRx := Lib.hid H.texts
  dsimp only at HRc HRx
  rw [← hn, ← hm, ← hq] at HH
  rw [← hm] at Htabs
  rw [← hn] at HRc hcellc
  rw [← hq] at HRx
  rw [← hn, ← hm, ← hq]
  have Hn := Lib.hid hn
  have Hm := Lib.hid hm
  have Hq := Lib.hid hq
  have Htl := Lib.hid (hm.trans htl)
  rw [← hn] at hcc
  rw [← hm] at hct
  rw [← hq] at hcx
  clear hn hm hq hts htl htr H
  obtain ⟨a2, cap2, rfl, hc2, hcell2⟩ := h2
  obtain ⟨a3, cap3, rfl, hc3, hm3, hcell3⟩ := h3.open icL_len
  obtain ⟨n3, hn3⟩ : ∃ n, n = xs.length := ⟨_, rfl⟩
  obtain ⟨n2, hn2⟩ : ∃ n, n = zs.length := ⟨_, rfl⟩
  rw [← hn3] at hc3 hcell3 ⊢
  rw [← hn2] at hc2 hcell2 hz2 ⊢
  have Hn3 := Lib.hid hn3
  have Hn2 := Lib.hid hn2
  clear h3 hn3 hn2
  have Hvs := Lib.hid hvs
  have Hvk := Lib.hid hvk
  have Hvv := Lib.hid hvv
  clear hvs hvk hvv
  unfold maxLen at hmc hmt hmx hm3
  have HP : Hid (PBox (w.alloc (.cells (pgC p ⟨.slice ac n cc, .slice at' m ct, .slice ax q cx, vs, vk, vv⟩) 30)) w.heap.size p ⟨.slice ac n cc, .slice at' m ct, .slice ax q cx, vs, vk, vv⟩) := Lib.hid (PBox.new _ _ _)
  have Hb0 : Hid (Below w.heap.size w (w.alloc (.cells (pgC p ⟨.slice ac n cc, .slice at' m ct, .slice ax q cx, vs, vk, vv⟩) 30))) := Lib.hid ((Below.refl _ _).alloc (Nat.le_refl _) _)
  have HA := Lib.hid fun w H => ver_Check p ⟨.slice ac n cc, .slice at' m ct, .slice ax q cx, vs, vk, vv⟩ w H
  have HC := Lib.hid fun w H W => law_few2 p ⟨.slice ac n cc, .slice at' m ct, .slice ax q cx, vs, vk, vv⟩ w H W
  have Hck : Hid ((checkI p).1 = 0 → checkI p = (0, 0)) := Lib.hid fun h => ck_zero h
  obtain ⟨e1, he1⟩ : ∃ s, s = (checkI p).1 := ⟨_, rfl⟩
  obtain ⟨e2, he2⟩ : ∃ s, s = (checkI p).2 := ⟨_, rfl⟩
  rw [← he1, ← he2] at HA
  rw [← he1] at Hck
  clear he1 he2
  go_enter Try.func6, Try.ntmps6
  repeat' (first | (with_reducible refine load_pg HP.out _ rfl rfl ?_) | go_values | go_skip | go_guarded | go_step | go_upon)
  refine Calls.mono (law23_alive _) ?_
  rintro _ w1 ⟨rfl, hb1⟩
  dsimp only
  have P1 := Lib.hid (HP.out.keep hb1)
  have B1 := Lib.hid (Hb0.out.trans (hb1.mono Hb0.out.size))
  clear hb1 HP Hb0
  repeat' (first | (with_reducible refine load_pg P1.out _ rfl rfl ?_) | go_values | go_skip | go_guarded | go_step | go_upon)
  refine Calls.mono (HA.out _ (HH.out.keep B1.out)) ?_
  rintro _ w2 ⟨rfl, hb2⟩
  dsimp only
  have P2 := Lib.hid (P1.out.keep hb2)
  have B2 := Lib.hid (B1.out.trans (hb2.mono B1.out.size))
  clear hb2 P1 B1 HA
  obtain ⟨k0, k1, k2', k3, k4, k5, k6, k7, k8, k9⟩ := P2.out.ten
  clear k0 k1 k2' k4 k7 k8 k9
  by_cases h0 : e1 = 0
  rotate_left
  · have hne : (e1 != 0) = true := by rw [bne_iff_ne]; exact h0
    repeat' (first | go_values | go_skip | go_guarded | go_step | go_upon)
    go_ret
    exact ⟨rfl, B2.out⟩
  have hck := Hck.out h0
  have hw := (ok_open hck).1
  have hl := ((data_iff p).1 hw.data).2.2.2.1
  have Hw := Lib.hid hw
  have Hc0 := Lib.hid hck
  obtain ⟨hl0, hl1, hl2, hl3⟩ := hl
  rw [← Htl.out] at hl2
  rw [← Hq.out] at hl3
  subst h0
  clear hck hw Hck
  by_cases hq1 : (100 : Int) < q
  · repeat' (first | go_values | go_skip | go_guarded | go_step | go_upon)
    go_ret
    exact ⟨rfl, B2.out⟩
  have hq2 : (q : Int) ≤ 100 := by omega
  by_cases hm1 : (16 : Int) ≤ m
  · repeat' (first | go_values | go_skip | go_guarded | go_step | go_upon)
    go_ret
    exact ⟨rfl, B2.out⟩
  have hm2 : (m : Int) < 16 := by omega
  by_cases ht1 : (4096 : Int) < tx.length
  · repeat' (first | go_values | go_skip | go_guarded | go_step | go_upon)
    go_ret
    exact ⟨rfl, B2.out⟩
  have ht2 : (tx.length : Int) ≤ 4096 := by omega
  by_cases hs1 : (65536 : Int) ≤ p.signs
  · repeat' (first | go_values | go_skip | go_guarded | go_step | go_upon)
    go_ret
    exact ⟨rfl, B2.out⟩
  have hs2 : p.signs < 65536 := by omega
  repeat' (first | (with_reducible refine load_pg P2.out _ rfl rfl ?_) | go_values | go_skip | go_guarded | go_step | go_upon)
  refine Calls.mono (HC.out _ (HH.out.keep B2.out) Hw.out) ?_
  rintro _ w3 ⟨c, rfl, hc80, hb3⟩
  dsimp only
  have P3 := Lib.hid (P2.out.keep hb3)
  have B3 := Lib.hid (B2.out.trans (hb3.mono B2.out.size))
  clear hb3 P2 B2 HC k3 k5 k6
  cases c with
  | false =>
    repeat' (first | go_values | go_skip | go_guarded | go_step | go_upon)
    go_ret
    exact ⟨rfl, B3.out⟩
  | true =>
  have hc80 := Lib.hid (hc80 rfl)
  by_cases h31 : (20 : Int) < n3
  · repeat' (first | go_values | go_skip | go_guarded | go_step | go_upon)
    go_ret
    exact ⟨rfl, B3.out⟩
  have h32 : (n3 : Int) ≤ 20 := by omega
  rw [Hvs.out, Hvk.out, Hvv.out] at P3 HH
  rw [Hvs.out, Hvk.out, Hvv.out]
  clear Hvs Hvk Hvv
  repeat' (go_not_at_region 7; first | (with_reducible refine load_pg P3.out _ rfl rfl ?_) | go_values | go_skip | go_guarded | go_step | go_upon)
  refine gen_wd (MW w p ⟨.slice ac n cc, .slice at' m ct, .slice ax q cx, .slice as0 ns cs, .slice ak nk ck, .slice av nv cv⟩ w.heap.size w3.heap.size p.signs (.slice ac n cc) (.slice at' m ct) (.slice ax q cx)) (mw_start P3.out B3.out) ?_
  intro wa hM
  have HM := Lib.hid hM
  generalize w3.heap.size = g11 at HM ⊢
  clear hM P3 B3
  -- texts
  have hab := (Below.refl wa.heap.size wa).alloc (Nat.le_refl _) (.cells #[] 9)
  have k6 := (HM.out.keep hab).box.ten.2.2.2.2.2.2.1
  have hown0 := own_emptyM (f := strC) (sz := 1) (e := 9) wa HM.out.bel.size
  have hx0 : RowOf strC 1 (wa.alloc (.cells #[] 9)) (.slice ax q cx) p.texts := (HRx.out.keep HM.out.bel).keep hab
  have hB0 : w.heap.size ≤ (wa.alloc (.cells #[] 9)).heap.size := by have := HM.out.bel.size; rw [World.size_alloc]; omega
  have hbg : (([] : List (List UInt8)).length + p.texts.length) * 16 ≤ 140737488355328 ∧ ([] : List (List UInt8)).length + p.texts.length ≤ maxLen := by
    rw [← Hq.out]; unfold maxLen; simp; omega
  repeat' (go_not_at_region 8; first | (at_builtin; refine app_rowL 16 strC_len (fun y _ => strC_one y) Try.underlying24 info_strM rfl rfl (.tmp 63) (.tmp 65) rfl rfl hx0 hown0 hB0 hbg.1 hbg.2 ?_; intro v4 w4 ho4 hb4 hk4; rw [List.nil_append] at ho4; have M4 := Lib.hid ((HM.out.keep hab).turn hb4 hk4 (by decide)); have hB4 := M4.out.bel.size) | (at_builtin; refine app_one 16 w4.heap.size rfl tx strC_len (strC_one tx) Try.underlying24 info_strM rfl rfl (.tmp 66) (.tmp 68) rfl rfl rfl rfl ho4 hB4 (by rw [← Hq.out]; omega) (by rw [← Hq.out]; unfold maxLen; omega) ?_; intro v5 w5 ho5 hb5 hk5 _; have M5 := Lib.hid (M4.out.turn hb5 hk5 (by decide)); have o6 := M5.out.qb.ten.2.2.2.2.2.2.1; have f6 := M5.out.free 6; obtain ⟨a5, m5, n5, e5⟩ := ho5.form3M; subst e5) | go_values | go_skip | go_guarded | go_step | go_upon)
  clear k6 hab hown0 hx0 hB0 hbg o6 f6 hk4 hb4 ho4 hB4 M4 HM
  refine gen_wd (fun W => MW w p ⟨.slice ac n cc, .slice at' m ct, .slice ax q cx, .slice as0 ns cs, .slice ak nk ck, .slice av nv cv⟩ w.heap.size g11 p.signs (.slice ac n cc) (.slice at' m ct) (.slice a5 m5 n5) W ∧ OwnR strC 1 w.heap.size 9 W (.slice a5 m5 n5) (p.texts ++ [tx])) ⟨M5.out.set6 _, ho5.prog M5.out.qb (by decide)⟩ ?_
  clear M5 ho5 hb5 hk5
  rintro wb ⟨hM, hX⟩
  have HM := Lib.hid hM
  have HX := Lib.hid hX
  have o3 := hM.qb.ten.2.2.2.1
  have f3 := hM.free 3
  clear hM hX
  repeat' (go_not_at_region 9; first | go_values | go_skip | go_guarded | go_step | go_upon)
  clear o3 f3
  refine gen_wd (fun W => MW w p ⟨.slice ac n cc, .slice at' m ct, .slice ax q cx, .slice as0 ns cs, .slice ak nk ck, .slice av nv cv⟩ w.heap.size g11 (p.signs + 1) (.slice ac n cc) (.slice at' m ct) (.slice a5 m5 n5) W ∧ OwnR strC 1 w.heap.size 9 W (.slice a5 m5 n5) (p.texts ++ [tx])) ⟨HM.out.set3 _, HX.out.prog HM.out.qb (by decide)⟩ ?_
  clear HM HX
  rintro wb ⟨hM, hX⟩
  have HM := Lib.hid hM
  have HX := Lib.hid hX
  clear hM hX
  repeat' (go_not_at_region 11; first | go_values | go_skip | go_guarded | go_step | go_upon)
  have hgb : w.heap.size ≤ wb.heap.size + 1 := by have := HM.out.bel.size; omega
  refine gen_wd (fun W => MW w p ⟨.slice ac n cc, .slice at' m ct, .slice ax q cx, .slice as0 ns cs, .slice ak nk ck, .slice av nv cv⟩ w.heap.size g11 (p.signs + 1) (.slice ac n cc) (.slice at' m ct) (.slice a5 m5 n5) W ∧ OwnR strC 1 w.heap.size 9 W (.slice a5 m5 n5) (p.texts ++ [tx]) ∧ TBox W (wb.heap.size + 1) 1 (.slice (some ⟨wb.heap.size, 0, none⟩) 1 1) ∧ OwnR intC 1 w.heap.size 3 W (.slice (some ⟨wb.heap.size, 0, none⟩) 1 1) [1])
    (tab_start HM.out HX.out) ?_
  clear HM HX
  rintro wx ⟨hM, hX, hT, hD⟩
  have HM := Lib.hid hM
  have HX := Lib.hid hX
  have HT := Lib.hid hT
  have HD := Lib.hid hD
  clear hM hX hT hD
  generalize wb.heap.size + 1 = g12 at HT hgb ⊢
  go_loopw [79] (fun s79 wr => ∃ (k : Nat) (td : List Int) (vd : Value), s79 = .int .i64 k ∧ k ≤ n2 ∧ Hid (1 ≤ td.length ∧ td.length ≤ 1000) ∧ Hid (td.all numOk = true) ∧ Hid (MW w p ⟨.slice ac n cc, .slice at' m ct, .slice ax q cx, .slice as0 ns cs, .slice ak nk ck, .slice av nv cv⟩ w.heap.size g11 (p.signs + 1) (.slice ac n cc) (.slice at' m ct) (.slice a5 m5 n5) wr) ∧ Hid (OwnR strC 1 w.heap.size 9 wr (.slice a5 m5 n5) (p.texts ++ [tx])) ∧ Hid (TBox wr g12 1 vd) ∧ Hid (OwnR intC 1 w.heap.size 3 wr vd td)) (fun s79 _ => n2 - (intOf s79).toNat)
  case atStart => exact ⟨0, [1], _, rfl, Nat.zero_le _, Lib.hid ⟨by decide, by decide⟩, Lib.hid (by decide), HM, HX, HT, HD⟩
  case round =>
    clear HM HX HT HD
    obtain ⟨k, td, vd, rfl, hk, Hl, Ha, HM, HX, HT, HD⟩ := hrel
    by_cases hkn : k < n2
    · rcases hcell2 with h00 | ⟨b, off, rfl, hbB, hcell2⟩
      · have := Hn2.out; rw [h00] at this; simp at this; omega
      have c0 := hcell2 k hkn
      rw [← HM.out.bel.cell (show b < w.heap.size from hbB)] at c0
      clear hcell2
      generalize zs.getD k 0 = z at c0
      by_cases hz0 : z < 0
      · repeat' (first | go_values | go_skip | go_guarded | go_step | go_upon)
        go_roundw
        case rel => exact ⟨k + 1, td, vd, by go_num, by omega, Hl, Ha, HM, HX, HT, HD⟩
        case measure => simp [intOf]; omega
      have hz0' : 0 ≤ z := by omega
      by_cases hz1 : 1073741824 < z
      · repeat' (first | go_values | go_skip | go_guarded | go_step | go_upon)
        go_roundw
        case rel => exact ⟨k + 1, td, vd, by go_num, by omega, Hl, Ha, HM, HX, HT, HD⟩
        case measure => simp [intOf]; omega
      have hz1' : z ≤ 1073741824 := by omega
      have t1 := HT.out.two.2
      obtain ⟨ad, cd, hvd, hcd, hmd⟩ := HD.out.form
      obtain ⟨nd, hnd⟩ : ∃ n, n = td.length := ⟨_, rfl⟩
      rw [← hnd] at hvd hcd
      subst hvd
      have hl1000 := Hl.out.2
      rw [← hnd] at hl1000
      have Hnd := Lib.hid hnd
      clear hnd hz0 hz1
      by_cases hnd : nd < 1000
      · have hab := HD.out
        have hB4 := HM.out.bel.size
        have hpre : Hid ((td ++ [z]).all numOk = true) := Lib.hid (by rw [List.all_append, Ha.out]; simp [numOk]; omega)
        repeat' (first | (at_builtin; refine app_one 8 wr.heap.size rfl z intC_len (intC_one z) Try.underlying35 info_intM rfl rfl _ _ rfl rfl rfl rfl hab hB4 (by rw [← Hnd.out]; omega) (by rw [← Hnd.out]; unfold maxLen; omega) ?_; intro v6 w6 ho6 hb6 hk6 _; have T6 : TBox w6 g12 1 (.slice ad nd cd) := hk6 _ _ _ _ HT.out (by decide); have o7 := T6.two.2; have f7 := frozen_of_row _ _ 1 _ _ T6; obtain ⟨a6, m6, n6, e6⟩ := ho6.form3M; subst e6) | go_values | go_skip | go_guarded | go_step | go_upon)
        go_roundw
        case rel => exact ⟨k + 1, td ++ [z], .slice a6 m6 n6, by go_num, by omega, Lib.hid (by rw [List.length_append, List.length_singleton, ← Hnd.out]; omega), hpre, Lib.hid ((HM.out.turn hb6 hk6 (by decide)).other T6 hgb), Lib.hid ((HX.out.keepT hk6 (by decide)).tab T6 (by decide)), Lib.hid (T6.set1 _), Lib.hid (ho6.tab T6 (by decide))⟩
        case measure => simp [intOf]; omega
      · have hnd' : (1000 : Int) ≤ nd := by omega
        repeat' (first | go_values | go_skip | go_guarded | go_step | go_upon)
        go_roundw
        case rel => exact ⟨k + 1, td, .slice ad nd cd, by go_num, by omega, Hl, Ha, HM, HX, HT, HD⟩
        case measure => simp [intOf]; omega
    · obtain rfl : n2 = k := by omega
      repeat' (go_not_at_region 16; first | go_values | go_skip | go_guarded | go_step | go_upon)
      obtain ⟨ad, md, cd, hvd⟩ := HD.out.form3M
      subst hvd
      go_cut [79] from 102 to 109 (fun s79 wc => s79 = .int .i64 n2 ∧ ∃ (a7 : Option Addr) (m7 n7 : Nat), Hid (MW w p ⟨.slice ac n cc, .slice at' m ct, .slice ax q cx, .slice as0 ns cs, .slice ak nk ck, .slice av nv cv⟩ w.heap.size g11 (p.signs + 1) (.slice ac n cc) (.slice a7 m7 n7) (.slice a5 m5 n5) wc) ∧ Hid (OwnR strC 1 w.heap.size 9 wc (.slice a5 m5 n5) (p.texts ++ [tx])) ∧ Hid (OwnR intC 1 w.heap.size 3 wc (.slice ad md cd) td) ∧ Hid (OwnR tbC 2 w.heap.size 37 wc (.slice a7 m7 n7) (ts ++ [((1 : Int), Value.slice ad md cd)])))
      case first =>
        obtain ⟨C, hC⟩ : ∃ C : World → Prop, C = fun W => Below wr.heap.size wr W := ⟨_, rfl⟩
        have Hmk : Hid (∀ W, Below wr.heap.size wr W → C W) := Lib.hid fun W h => by rw [hC]; exact h
        have Hop : Hid (∀ W, C W → Below wr.heap.size wr W) := Lib.hid fun W h => by rw [hC] at h; exact h
        clear hC
        have q0 : ∀ nq : GW C, nq.1.cell? ⟨w.heap.size, 5, none⟩ = some (.slice at' m ct) := fun nq => (HM.out.box.keep (Hop.out _ nq.2)).ten.2.2.2.2.2.1
        have q1 : ∀ nq : GW C, nq.1.cell? ⟨g12, 0, none⟩ = some (.int .i64 1) := fun nq => (HT.out.keep (Hop.out _ nq.2)).two.1
        have q2 : ∀ nq : GW C, nq.1.cell? ⟨g12, 1, none⟩ = some (.slice ad md cd) := fun nq => (HT.out.keep (Hop.out _ nq.2)).two.2
        refine wp_region_anyU (by kernel_rfl) C 8 ?_
        refine wpAnyU_take (i := 1) (v := _) rfl (by kernel_rfl) (by kernel_rfl) (by kernel_rfl) (by kernel_rfl) (by kernel_rfl) (fun _ _ _ h => h) (Or.inl ⟨by rfl, fun w ⟨nq, hw⟩ => by (subst hw; go_simp; first | exact ⟨rfl, rfl⟩ | rfl)⟩) (by go_simp <;> with_reducible rfl) ?_
        refine wpAnyU_take (i := 2) (v := _) rfl (by kernel_rfl) (by kernel_rfl) (by kernel_rfl) (by kernel_rfl) (by kernel_rfl) (fun _ _ _ h => h) (Or.inl ⟨by rfl, fun w ⟨nq, hw⟩ => by (subst hw; go_simp; first | exact ⟨rfl, rfl⟩ | rfl)⟩) (by go_simp <;> with_reducible rfl) ?_
        refine wpAnyU_take (i := 4) (v := _) rfl (by kernel_rfl) (by kernel_rfl) (by kernel_rfl) (by kernel_rfl) (by kernel_rfl) (fun _ _ _ h => h) (Or.inl ⟨by rfl, fun w ⟨nq, hw⟩ => by (subst hw; go_simp; first | exact ⟨rfl, rfl⟩ | rfl)⟩) (by go_simp <;> with_reducible rfl) ?_
        clear q0 q1 q2
        refine genU (fun W => Below wr.heap.size wr W) ((Below.refl _ _).drew) ?_
        intro W0 hb0
        have HB0 := Lib.hid hb0
        clear hb0
        have HRt := Lib.hid Htabs.out.1
        have htone := tabs_one Htabs.out.1 (Hm.out.symm.trans Htabs.out.2.1) Htabs.out.2.2
        have hbt0 : (([] : List (Int × Value)).length + ts.length) * 32 ≤ 140737488355328 ∧ ([] : List (Int × Value)).length + ts.length ≤ maxLen := by
          rw [← Hm.out]; unfold maxLen; simp; omega
        have hbt1 : (ts.length + [((1 : Int), Value.slice ad md cd)].length) * 32 ≤ 140737488355328 ∧ ts.length + [((1 : Int), Value.slice ad md cd)].length ≤ maxLen := by
          rw [← Hm.out]; unfold maxLen; simp; omega
        have one_tb : ∀ y, y ∈ [((1 : Int), Value.slice ad md cd)] → ∀ u ∈ tbC y, u.oneCell' = true := by
          intro y hy u hu
          simp at hy; subst hy
          simp [tbC] at hu
          rcases hu with rfl | rfl <;> rfl
        -- REGION16 BEGIN
        refine wpAnyU_ready (CG.of (Hmk.out _ HB0.out)) (rs := [0, 5]) (by kernel_rfl) (by simp) ?_
        refine (AllReadyU.cons rfl (fun K hK => ?_) (AllReadyU.cons rfl (fun K hK => ?_) AllReadyU.nil))
        focus
          go_simp
          refine hK _ _ ?_
          clear hK K
          refine genU (fun W => Below wr.heap.size wr W ∧ OwnR tbC 2 wr.heap.size 37 W (.slice (some ⟨W0.heap.size, 0, none⟩) 0 0) []) ⟨HB0.out.alloc HB0.out.size _, own_emptyM _ HB0.out.size⟩ ?_
          rintro W1 ⟨hb1, ho1⟩
          have HB1 := Lib.hid hb1
          have HO1 := Lib.hid ho1
          clear hb1 ho1
          refine wpAnyU_ready (CG.of (Hmk.out _ HB1.out)) (rs := [3, 5]) (by kernel_rfl) (by simp) ?_
          refine (AllReadyU.cons rfl (fun K hK => ?_) (AllReadyU.cons rfl (fun K hK => ?_) AllReadyU.nil))
          focus
            refine step_of rfl (app_rowW 32 tbC_lenM htone Try.underlying23 info_tabM rfl (.tmp 102) (.tmp 104) rfl rfl (HRt.out.keep (HM.out.bel.trans (HB1.out.mono HM.out.bel.size))) HO1.out HB1.out.size hbt0.1 hbt0.2 ?_)
            intro v2 W2 ho2 hg2
            refine hK _ _ ?_
            clear hK K
            rw [List.nil_append] at ho2
            have HO2 := Lib.hid ho2
            have HB2 := Lib.hid (HB1.out.trans (grown_below hg2 HB1.out.size fun k hk => (HO1.out.below hk).1))
            clear ho2 hg2
            refine wpAnyU_ready (CG.of (Hmk.out _ HB2.out)) (rs := [5]) (by kernel_rfl) (by simp) ?_
            refine (AllReadyU.cons rfl (fun K hK => ?_) AllReadyU.nil)
            go_simp
            refine hK _ _ ?_
            clear hK K
            refine genU (fun W => Below wr.heap.size wr W ∧ TBox W W2.heap.size 1 (.slice ad md cd) ∧ OwnR tbC 2 wr.heap.size 37 W v2 ts) ⟨HB2.out.alloc HB2.out.size _, TBox.new _ _ _, OwnR.keep HO2.out ((Below.refl _ _).alloc (Nat.le_refl _) _) (Nat.le_refl _)⟩ ?_
            rintro W3 ⟨hb3, ht3, ho3⟩
            have HB3 := Lib.hid hb3
            have HT3 := Lib.hid ht3
            have HO3 := Lib.hid ho3
            clear hb3 ht3 ho3
            refine wpAnyU_ready (CG.of (Hmk.out _ HB3.out)) (rs := [6]) (by kernel_rfl) (by simp) ?_
            refine (AllReadyU.cons rfl (fun K hK => ?_) AllReadyU.nil)
            refine step_of rfl (app_rowW 32 tbC_lenM one_tb Try.underlying23 info_tabM rfl (.tmp 105) (.tmp 107) rfl rfl (row_own (f := tbC) (sz := 2) (l := [((1 : Int), Value.slice ad md cd)]) (fun _ => rfl) HT3.out (by show 1 ≤ maxLen; decide)) HO3.out HB3.out.size hbt1.1 hbt1.2 ?_)
            intro v4 W4 ho4 hg4
            refine hK _ _ ?_
            clear hK K
            have HO4 := Lib.hid ho4
            have HB4 := Lib.hid (HB3.out.trans (grown_below hg4 HB3.out.size fun k hk => (HO3.out.below hk).1))
            clear ho4 hg4
            have M := Lib.hid (HM.out.keep HB4.out)
            have o5 := M.out.qb.ten.2.2.2.2.2.1
            have f5 := M.out.free 5
            obtain ⟨a7, m7, n7, e7⟩ := HO4.out.form3M
            subst e7
            refine wpAnyU_take (i := 7) (v := _) rfl (by kernel_rfl) (by kernel_rfl) (by kernel_rfl) (by kernel_rfl) (by kernel_rfl) (fun _ _ _ h => h) (Or.inl ⟨by rfl, fun w ⟨nq, hw⟩ => by (subst hw; go_simp; first | exact ⟨rfl, rfl⟩ | rfl)⟩) (by go_simp <;> with_reducible rfl) ?_
            refine wpAnyU_ready (CG.of (Hmk.out _ HB4.out)) (rs := [8]) (by kernel_rfl) (by simp) ?_
            refine (AllReadyU.cons rfl (fun K hK => ?_) AllReadyU.nil)
            go_simp
            refine hK _ _ ?_
            clear hK K
            refine wpAnyU_done (by kernel_rfl) (by kernel_rfl) (by go_simp <;> with_reducible rfl) ?_
            repeat' (first | go_values | go_skip | go_guarded | go_step | go_upon)
            go_meet
            case rel => exact ⟨rfl, a7, m7, n7, Lib.hid (M.out.set5 _), Lib.hid (OwnR.prog (OwnR.keep HX.out HB4.out (Nat.le_refl _)) M.out.qb (by decide)), Lib.hid (OwnR.prog (OwnR.keep HD.out HB4.out (Nat.le_refl _)) M.out.qb (by decide)), Lib.hid (OwnR.prog (OwnC.base HO4.out HM.out.bel.size) M.out.qb (by decide))⟩
          focus
            go_simp
            refine hK _ _ ?_
            clear hK K
            refine genU (fun W => Below wr.heap.size wr W ∧ TBox W W1.heap.size 1 (.slice ad md cd) ∧ OwnR tbC 2 wr.heap.size 37 W (.slice (some ⟨W0.heap.size, 0, none⟩) 0 0) []) ⟨HB1.out.alloc HB1.out.size _, TBox.new _ _ _, OwnR.keep HO1.out ((Below.refl _ _).alloc (Nat.le_refl _) _) (Nat.le_refl _)⟩ ?_
            rintro W5 ⟨hb5, ht5, ho5⟩
            have HB5 := Lib.hid hb5
            have HT5 := Lib.hid ht5
            have HO5 := Lib.hid ho5
            clear hb5 ht5 ho5
            refine wpAnyU_ready (CG.of (Hmk.out _ HB5.out)) (rs := [3]) (by kernel_rfl) (by simp) ?_
            refine (AllReadyU.cons rfl (fun K hK => ?_) AllReadyU.nil)
            refine step_of rfl (app_rowW 32 tbC_lenM htone Try.underlying23 info_tabM rfl (.tmp 102) (.tmp 104) rfl rfl (HRt.out.keep (HM.out.bel.trans (HB5.out.mono HM.out.bel.size))) HO5.out HB5.out.size hbt0.1 hbt0.2 ?_)
            intro v6 W6 ho6 hg6
            refine hK _ _ ?_
            clear hK K
            rw [List.nil_append] at ho6
            have HO6 := Lib.hid ho6
            have HB6 := Lib.hid (HB5.out.trans (grown_below hg6 HB5.out.size fun k hk => (HO5.out.below hk).1))
            have HT6 : Hid (TBox W6 W1.heap.size 1 (.slice ad md cd)) := Lib.hid (grown_obj hg6 HT5.out (fun e => by have h1 : W0.heap.size = W1.heap.size := Option.some.inj e; have := HO1.out.below (g := W0.heap.size) rfl; omega))
            clear ho6 hg6
            refine wpAnyU_ready (CG.of (Hmk.out _ HB6.out)) (rs := [6]) (by kernel_rfl) (by simp) ?_
            refine (AllReadyU.cons rfl (fun K hK => ?_) AllReadyU.nil)
            refine step_of rfl (app_rowW 32 tbC_lenM one_tb Try.underlying23 info_tabM rfl (.tmp 105) (.tmp 107) rfl rfl (row_own (f := tbC) (sz := 2) (l := [((1 : Int), Value.slice ad md cd)]) (fun _ => rfl) HT6.out (by show 1 ≤ maxLen; decide)) HO6.out HB6.out.size hbt1.1 hbt1.2 ?_)
            intro v7 W7 ho7 hg7
            refine hK _ _ ?_
            clear hK K
            have HO7 := Lib.hid ho7
            have HB7 := Lib.hid (HB6.out.trans (grown_below hg7 HB6.out.size fun k hk => (HO6.out.below hk).1))
            clear ho7 hg7
            have M := Lib.hid (HM.out.keep HB7.out)
            have o5 := M.out.qb.ten.2.2.2.2.2.1
            have f5 := M.out.free 5
            obtain ⟨a7, m7, n7, e7⟩ := HO7.out.form3M
            subst e7
            refine wpAnyU_take (i := 7) (v := _) rfl (by kernel_rfl) (by kernel_rfl) (by kernel_rfl) (by kernel_rfl) (by kernel_rfl) (fun _ _ _ h => h) (Or.inl ⟨by rfl, fun w ⟨nq, hw⟩ => by (subst hw; go_simp; first | exact ⟨rfl, rfl⟩ | rfl)⟩) (by go_simp <;> with_reducible rfl) ?_
            refine wpAnyU_ready (CG.of (Hmk.out _ HB7.out)) (rs := [8]) (by kernel_rfl) (by simp) ?_
            refine (AllReadyU.cons rfl (fun K hK => ?_) AllReadyU.nil)
            go_simp
            refine hK _ _ ?_
            clear hK K
            refine wpAnyU_done (by kernel_rfl) (by kernel_rfl) (by go_simp <;> with_reducible rfl) ?_
            repeat' (first | go_values | go_skip | go_guarded | go_step | go_upon)
            go_meet
            case rel => exact ⟨rfl, a7, m7, n7, Lib.hid (M.out.set5 _), Lib.hid (OwnR.prog (OwnR.keep HX.out HB7.out (Nat.le_refl _)) M.out.qb (by decide)), Lib.hid (OwnR.prog (OwnR.keep HD.out HB7.out (Nat.le_refl _)) M.out.qb (by decide)), Lib.hid (OwnR.prog (OwnC.base HO7.out HM.out.bel.size) M.out.qb (by decide))⟩
        focus
          go_simp
          refine hK _ _ ?_
          clear hK K
          refine genU (fun W => Below wr.heap.size wr W ∧ TBox W W0.heap.size 1 (.slice ad md cd)) ⟨HB0.out.alloc HB0.out.size _, TBox.new _ _ _⟩ ?_
          rintro W8 ⟨hb8, ht8⟩
          have HB8 := Lib.hid hb8
          have HT8 := Lib.hid ht8
          clear hb8 ht8
          refine wpAnyU_ready (CG.of (Hmk.out _ HB8.out)) (rs := [0]) (by kernel_rfl) (by simp) ?_
          refine (AllReadyU.cons rfl (fun K hK => ?_) AllReadyU.nil)
          go_simp
          refine hK _ _ ?_
          clear hK K
          refine genU (fun W => Below wr.heap.size wr W ∧ OwnR tbC 2 wr.heap.size 37 W (.slice (some ⟨W8.heap.size, 0, none⟩) 0 0) [] ∧ TBox W W0.heap.size 1 (.slice ad md cd)) ⟨HB8.out.alloc HB8.out.size _, own_emptyM _ HB8.out.size, HT8.out.keep ((Below.refl _ _).alloc (Nat.le_refl _) _)⟩ ?_
          rintro W9 ⟨hb9, ho9, ht9⟩
          have HB9 := Lib.hid hb9
          have HO9 := Lib.hid ho9
          have HT9 := Lib.hid ht9
          clear ht9
          clear hb9 ho9
          refine wpAnyU_ready (CG.of (Hmk.out _ HB9.out)) (rs := [3]) (by kernel_rfl) (by simp) ?_
          refine (AllReadyU.cons rfl (fun K hK => ?_) AllReadyU.nil)
          refine step_of rfl (app_rowW 32 tbC_lenM htone Try.underlying23 info_tabM rfl (.tmp 102) (.tmp 104) rfl rfl (HRt.out.keep (HM.out.bel.trans (HB9.out.mono HM.out.bel.size))) HO9.out HB9.out.size hbt0.1 hbt0.2 ?_)
          intro v10 W10 ho10 hg10
          refine hK _ _ ?_
          clear hK K
          rw [List.nil_append] at ho10
          have HO10 := Lib.hid ho10
          have HB10 := Lib.hid (HB9.out.trans (grown_below hg10 HB9.out.size fun k hk => (HO9.out.below hk).1))
          have HT10 : Hid (TBox W10 W0.heap.size 1 (.slice ad md cd)) := Lib.hid (grown_obj hg10 HT9.out (fun e => by have h1 : W8.heap.size = W0.heap.size := Option.some.inj e; have := HT8.out.lt; omega))
          clear ho10 hg10
          refine wpAnyU_ready (CG.of (Hmk.out _ HB10.out)) (rs := [6]) (by kernel_rfl) (by simp) ?_
          refine (AllReadyU.cons rfl (fun K hK => ?_) AllReadyU.nil)
          refine step_of rfl (app_rowW 32 tbC_lenM one_tb Try.underlying23 info_tabM rfl (.tmp 105) (.tmp 107) rfl rfl (row_own (f := tbC) (sz := 2) (l := [((1 : Int), Value.slice ad md cd)]) (fun _ => rfl) HT10.out (by show 1 ≤ maxLen; decide)) HO10.out HB10.out.size hbt1.1 hbt1.2 ?_)
          intro v11 W11 ho11 hg11
          refine hK _ _ ?_
          clear hK K
          have HO11 := Lib.hid ho11
          have HB11 := Lib.hid (HB10.out.trans (grown_below hg11 HB10.out.size fun k hk => (HO10.out.below hk).1))
          clear ho11 hg11
          have M := Lib.hid (HM.out.keep HB11.out)
          have o5 := M.out.qb.ten.2.2.2.2.2.1
          have f5 := M.out.free 5
          obtain ⟨a7, m7, n7, e7⟩ := HO11.out.form3M
          subst e7
          refine wpAnyU_take (i := 7) (v := _) rfl (by kernel_rfl) (by kernel_rfl) (by kernel_rfl) (by kernel_rfl) (by kernel_rfl) (fun _ _ _ h => h) (Or.inl ⟨by rfl, fun w ⟨nq, hw⟩ => by (subst hw; go_simp; first | exact ⟨rfl, rfl⟩ | rfl)⟩) (by go_simp <;> with_reducible rfl) ?_
          refine wpAnyU_ready (CG.of (Hmk.out _ HB11.out)) (rs := [8]) (by kernel_rfl) (by simp) ?_
          refine (AllReadyU.cons rfl (fun K hK => ?_) AllReadyU.nil)
          go_simp
          refine hK _ _ ?_
          clear hK K
          refine wpAnyU_done (by kernel_rfl) (by kernel_rfl) (by go_simp <;> with_reducible rfl) ?_
          repeat' (first | go_values | go_skip | go_guarded | go_step | go_upon)
          go_meet
          case rel => exact ⟨rfl, a7, m7, n7, Lib.hid (M.out.set5 _), Lib.hid (OwnR.prog (OwnR.keep HX.out HB11.out (Nat.le_refl _)) M.out.qb (by decide)), Lib.hid (OwnR.prog (OwnR.keep HD.out HB11.out (Nat.le_refl _)) M.out.qb (by decide)), Lib.hid (OwnR.prog (OwnC.base HO11.out HM.out.bel.size) M.out.qb (by decide))⟩
        -- REGION16 END
      case rest =>
        obtain ⟨rfl, a7, m7, n7, HM, HX, HD, HE⟩ := hcut
        have hab := (Below.refl wc.heap.size wc).alloc (Nat.le_refl _) (.cells #[] 39)
        have k4 := (HM.out.keep hab).box.ten.2.2.2.2.1
        have hown0 := own_emptyM (f := icL) (sz := 5) (e := 39) wc HM.out.bel.size
        have hx0 : RowOf icL 5 (wc.alloc (.cells #[] 39)) (.slice ac n cc) p.code := (HRc.out.keep HM.out.bel).keep hab
        have hB0 : w.heap.size ≤ (wc.alloc (.cells #[] 39)).heap.size := by have := HM.out.bel.size; rw [World.size_alloc]; omega
        have hbg : (([] : List (Nat → Int)).length + p.code.length) * 40 ≤ 140737488355328 ∧ ([] : List (Nat → Int)).length + p.code.length ≤ maxLen := by
          have := hc80.out; unfold maxLen; simp; omega
        repeat' (go_not_at_region 18; first | (at_builtin; refine app_rowL 40 icL_len (fun y _ => icL_oneM y) Try.underlying22 info_insM rfl rfl (.tmp 110) (.tmp 112) rfl rfl hx0 hown0 hB0 hbg.1 hbg.2 ?_; intro v8 w8 ho8 hb8 hk8; rw [List.nil_append] at ho8; have M8 := Lib.hid ((HM.out.keep hab).turn hb8 hk8 (by decide)); have o4 := M8.out.qb.ten.2.2.2.2.1; have f4 := M8.out.free 4; obtain ⟨a8, m8, n8, e8⟩ := ho8.form3M; subst e8) | go_values | go_skip | go_guarded | go_step | go_upon)
        clear k4 hown0 hx0 hB0 hbg o4 f4
        refine gen_wd (fun W => MW w p ⟨.slice ac n cc, .slice at' m ct, .slice ax q cx, .slice as0 ns cs, .slice ak nk ck, .slice av nv cv⟩ w.heap.size g11 (p.signs + 1) (.slice a8 m8 n8) (.slice a7 m7 n7) (.slice a5 m5 n5) W ∧ OwnR strC 1 w.heap.size 9 W (.slice a5 m5 n5) (p.texts ++ [tx]) ∧ OwnR intC 1 w.heap.size 3 W (.slice ad md cd) td ∧ OwnR tbC 2 w.heap.size 37 W (.slice a7 m7 n7) (ts ++ [((1 : Int), Value.slice ad md cd)]) ∧ OwnR icL 5 w.heap.size 39 W (.slice a8 m8 n8) (p.code ++ []))
          ⟨M8.out.set4 _, ((OwnR.keep HX.out hab (Nat.le_refl _)).keepT hk8 (by decide)).prog M8.out.qb (by decide), ((OwnR.keep HD.out hab (Nat.le_refl _)).keepT hk8 (by decide)).prog M8.out.qb (by decide), ((OwnR.keep HE.out hab (Nat.le_refl _)).keepT hk8 (by decide)).prog M8.out.qb (by decide), by rw [List.append_nil]; exact ho8.prog M8.out.qb (by decide)⟩ ?_
        clear ho8 hb8 hk8 M8 hab HM HX HD HE
        rintro wy ⟨hM, hX, hD, hE, hF⟩
        have HM := Lib.hid hM
        have HX := Lib.hid hX
        have HD := Lib.hid hD
        have HE := Lib.hid hE
        have HF := Lib.hid hF
        clear hM hX hD hE hF
        repeat' (first | go_values | go_skip | go_guarded | go_step | go_upon)
        go_loopw [117] (fun s117 wr => ∃ (k : Nat) (ys : List (Nat → Int)) (a8 : Option Addr) (m8 n8 : Nat), s117 = .int .i64 k ∧ k ≤ n3 ∧ Hid (ys.length ≤ k) ∧ Hid (∀ x ∈ ys, okI x = true ∧ x 3 < (p.code.length : Int) ∧ x 4 < (p.tabs.length : Int)) ∧ Hid (MW w p ⟨.slice ac n cc, .slice at' m ct, .slice ax q cx, .slice as0 ns cs, .slice ak nk ck, .slice av nv cv⟩ w.heap.size g11 (p.signs + 1) (.slice a8 m8 n8) (.slice a7 m7 n7) (.slice a5 m5 n5) wr) ∧ Hid (OwnR strC 1 w.heap.size 9 wr (.slice a5 m5 n5) (p.texts ++ [tx])) ∧ Hid (OwnR intC 1 w.heap.size 3 wr (.slice ad md cd) td) ∧ Hid (OwnR tbC 2 w.heap.size 37 wr (.slice a7 m7 n7) (ts ++ [((1 : Int), Value.slice ad md cd)])) ∧ Hid (OwnR icL 5 w.heap.size 39 wr (.slice a8 m8 n8) (p.code ++ ys))) (fun s117 _ => n3 - (intOf s117).toNat)
        case atStart => exact ⟨0, [], _, _, _, rfl, Nat.zero_le _, Lib.hid (Nat.le_refl _), Lib.hid (fun x hx => by cases hx), HM, HX, HD, HE, HF⟩
        case round =>
          clear HM HX HD HE HF
          obtain ⟨k, ys, a8, m8, n8, rfl, hk, Hyl, Hys, HM, HX, HD, HE, HF⟩ := hrel
          by_cases hkn : k < n3
          · rcases hcell3 with h00 | ⟨b, off, rfl, hbB, hcell3⟩
            · omega
            obtain ⟨c0, c1, c2, c3, c4⟩ := ins5 hcell3 k (by rw [← Hn3.out]; exact hkn)
            rw [← HM.out.bel.cell (show b < w.heap.size from hbB)] at c0 c1 c2 c3 c4
            clear hcell3
            generalize xs.getD k k2 = x at c0 c1 c2 c3 c4
            have HV := Lib.hid (ver_Check (twoPrg x) ⟨.slice (some ⟨wr.heap.size + 1, 0, none⟩) 2 2, .slice none 0 0, .slice none 0 0, .slice none 0 0, .slice none 0 0, .slice none 0 0⟩ _ (two_at (two_new wr (.cells #[.int .i64 (x 0), .int .i64 (x 1), .int .i64 (x 2), .int .i64 (x 3), .int .i64 (x 4)] 39) (.cells (([x, k2] : List (Nat → Int)).flatMap icL).toArray 39)).1))
            have Hr : Hid ((checkI (twoPrg x)).1 ≠ 210 → okI x = true) := Lib.hid two_op
            generalize (checkI (twoPrg x)).1 = r1 at HV Hr
            generalize (checkI (twoPrg x)).2 = r2 at HV
            have hbz : Below wr.heap.size wr ((wr.alloc (.cells #[.int .i64 (x 0), .int .i64 (x 1), .int .i64 (x 2), .int .i64 (x 3), .int .i64 (x 4)] 39)).alloc (.cells (([x, k2] : List (Nat → Int)).flatMap icL).toArray 39)) := ((Below.refl _ _).alloc (Nat.le_refl _) _).alloc (by simp) _
            have HI : Hid (InsAt ((wr.alloc (.cells #[.int .i64 (x 0), .int .i64 (x 1), .int .i64 (x 2), .int .i64 (x 3), .int .i64 (x 4)] 39)).alloc (.cells (([x, k2] : List (Nat → Int)).flatMap icL).toArray 39)) wr.heap.size x) := Lib.hid (two_new wr (.cells #[.int .i64 (x 0), .int .i64 (x 1), .int .i64 (x 2), .int .i64 (x 3), .int .i64 (x 4)] 39) (.cells (([x, k2] : List (Nat → Int)).flatMap icL).toArray 39)).2
            repeat' (first | go_values | go_skip | go_guarded | go_step | go_upon)
            refine Calls.mono (HV.out) ?_
            rintro _ w4 ⟨rfl, hb4⟩
            dsimp only
            have hbw : Below wr.heap.size wr w4 := hbz.trans (hb4.mono hbz.size)
            have IA := Lib.hid (HI.out.keep hb4)
            have M := Lib.hid (HM.out.keep hbw)
            have X := Lib.hid (OwnR.keep HX.out hbw (Nat.le_refl _))
            have D := Lib.hid (OwnR.keep HD.out hbw (Nat.le_refl _))
            have E := Lib.hid (OwnR.keep HE.out hbw (Nat.le_refl _))
            have F := Lib.hid (OwnR.keep HF.out hbw (Nat.le_refl _))
            clear hbz HI hb4 hbw HV HM HX HD HE HF c0 c1 c2 c3 c4
            generalize wr.heap.size = gx at IA ⊢
            have i0 := IA.out.cell 0
            have i1 := IA.out.cell 1
            have i2 := IA.out.cell 2
            have i3 := IA.out.cell 3
            have i4 := IA.out.cell 4
            have k4 := M.out.box.ten.2.2.2.2.1
            have k5 := M.out.box.ten.2.2.2.2.2.1
            have hyl : Hid (ys.length ≤ k + 1) := Lib.hid (by have := Hyl.out; omega)
            by_cases hr : r1 = 210
            · have hrb : (r1 != 210) = false := by rw [bne_eq_false_iff_eq]; exact hr
              repeat' (first | go_values | go_skip | go_guarded | go_step | go_upon)
              go_roundw
              case rel => exact ⟨k + 1, ys, a8, m8, n8, by go_num, by omega, hyl, Hys, M, X, D, E, F⟩
              case measure => simp [intOf]; omega
            have hrb : (r1 != 210) = true := by rw [bne_iff_ne]; exact hr
            have Hok := Lib.hid (Hr.out hr)
            clear hr Hr
            by_cases hx3 : (n : Int) ≤ x 3
            · repeat' (first | go_values | go_skip | go_guarded | go_step | go_upon)
              go_roundw
              case rel => exact ⟨k + 1, ys, a8, m8, n8, by go_num, by omega, hyl, Hys, M, X, D, E, F⟩
              case measure => simp [intOf]; omega
            have hx3' : x 3 < (n : Int) := by omega
            by_cases hx4 : (m : Int) ≤ x 4
            · repeat' (first | go_values | go_skip | go_guarded | go_step | go_upon)
              go_roundw
              case rel => exact ⟨k + 1, ys, a8, m8, n8, by go_num, by omega, hyl, Hys, M, X, D, E, F⟩
              case measure => simp [intOf]; omega
            have hx4' : x 4 < (m : Int) := by omega
            have Hys2 : Hid (∀ y ∈ ys ++ [x], okI y = true ∧ y 3 < (p.code.length : Int) ∧ y 4 < (p.tabs.length : Int)) := Lib.hid fun y hy => by
              rcases List.mem_append.1 hy with hy | hy
              · exact Hys.out y hy
              · simp at hy; subst hy
                exact ⟨Hok.out, by rw [← Hn.out]; exact hx3', by rw [← Htl.out]; exact hx4'⟩
            have o4 := M.out.qb.ten.2.2.2.2.1
            have hown := F.out
            have hB4 := M.out.bel.size
            have hl80 := hc80.out
            have hyl0 := Hyl.out
            have hbig : (p.code ++ ys).length + 1 ≤ 1000 := by rw [List.length_append]; omega
            have Hbig := Lib.hid hbig
            clear hl80 hyl0 hbig
            repeat' (first | (at_builtin; refine app_one 40 w4.heap.size rfl x icL_len (icL_oneM x) Try.underlying22 info_insM rfl rfl _ _ rfl rfl rfl rfl hown hB4 (by have := Hbig.out; omega) (by have := Hbig.out; unfold maxLen; omega) ?_; intro v9 w9 ho9 hb9 hk9 _; have M9 := Lib.hid (M.out.turn hb9 hk9 (by decide)); have o9 := M9.out.qb.ten.2.2.2.2.1; have f9 := M9.out.free 4; obtain ⟨a9, m9, n9, e9⟩ := ho9.form3M; subst e9) | go_values | go_skip | go_guarded | go_step | go_upon)
            go_roundw
            case rel => exact ⟨k + 1, ys ++ [x], a9, m9, n9, by go_num, by omega, Lib.hid (by rw [List.length_append, List.length_singleton]; have := Hyl.out; omega), Hys2, Lib.hid (M9.out.set4 _), Lib.hid ((X.out.keepT hk9 (by decide)).prog M9.out.qb (by decide)), Lib.hid ((D.out.keepT hk9 (by decide)).prog M9.out.qb (by decide)), Lib.hid ((E.out.keepT hk9 (by decide)).prog M9.out.qb (by decide)), Lib.hid (by rw [← List.append_assoc]; exact ho9.prog M9.out.qb (by decide))⟩
            case measure => simp [intOf]; omega
          · obtain rfl : n3 = k := by omega
            have o4 := HM.out.qb.ten.2.2.2.2.1
            have hown := HF.out
            have hB4 := HM.out.bel.size
            have hl80 := hc80.out
            have hyl0 := Hyl.out
            have hbig : (p.code ++ ys).length + 1 ≤ 1000 := by rw [List.length_append]; omega
            have Hbig := Lib.hid hbig
            have hck := Lib.hid (more_ok (text := tx) (td := td) (xs := ys) Hc0.out (by rw [← Hq.out]; omega) (by rw [← Htl.out]; omega) (by omega) hs2 hl80 (by omega) Hl.out Ha.out Hys.out)
            clear hl80 hyl0 hbig
            repeat' (go_not_at_region 26; first | (at_builtin; refine app_one 40 wr.heap.size rfl k2 icL_len (icL_oneM k2) Try.underlying22 info_insM rfl rfl _ _ rfl rfl rfl rfl hown hB4 (by have := Hbig.out; omega) (by have := Hbig.out; unfold maxLen; omega) ?_; intro v9 w9 ho9 hb9 hk9 _; have M9 := Lib.hid (HM.out.turn hb9 hk9 (by decide)); have o9 := M9.out.qb.ten.2.2.2.2.1; have f9 := M9.out.free 4; obtain ⟨a9, m9, n9, e9⟩ := ho9.form3M; subst e9) | go_values | go_skip | go_guarded | go_step | go_upon)
            clear o4 o9 f9 hown hB4
            refine gen_wd (fun W => MW w p ⟨.slice ac n cc, .slice at' m ct, .slice ax q cx, .slice as0 ns cs, .slice ak nk ck, .slice av nv cv⟩ w.heap.size g11 (p.signs + 1) (.slice a9 m9 n9) (.slice a7 m7 n7) (.slice a5 m5 n5) W ∧ PrgAt W ⟨.slice a9 m9 n9, .slice a7 m7 n7, .slice a5 m5 n5, .slice as0 ns cs, .slice ak nk ck, .slice av nv cv⟩ (morePrg p tx td ys))
              ⟨M9.out.set4 _, MW.atQ (M9.out.set4 _) HH.out (i64_small (by omega)) htx ⟨Htabs.out.1, Hm.out.symm.trans Htabs.out.2.1, Htabs.out.2.2⟩ (ho9.prog M9.out.qb (by decide)) ((HE.out.keepT hk9 (by decide)).prog M9.out.qb (by decide)) ((HD.out.keepT hk9 (by decide)).prog M9.out.qb (by decide)) ((HX.out.keepT hk9 (by decide)).prog M9.out.qb (by decide))⟩ ?_
            clear ho9 hb9 hk9 M9 HM HX HD HE HF
            rintro wz ⟨hM, hQ⟩
            have HM := Lib.hid hM
            have HQ := Lib.hid (hM.qb)
            have HV := Lib.hid (ver_Check _ _ wz hQ)
            rw [hck.out] at HV
            clear hM hQ hck
            repeat' (first | (with_reducible refine load_pg HQ.out _ rfl rfl ?_) | go_values | go_skip | go_guarded | go_step | go_upon)
            refine Calls.mono (HV.out) ?_
            rintro _ w10 ⟨rfl, hb10⟩
            dsimp only
            have B10 := Lib.hid (HM.out.bel.trans (hb10.mono HM.out.bel.size))
            clear hb10 HV HQ HM
            repeat' (first | go_values | go_skip | go_guarded | go_step | go_upon)
            go_ret
            exact ⟨rfl, B10.out⟩
theorem ins_of {n : Nat} {xs : List Value} (hn : xs.length = n * 5) (h : ∀ i, i < n → FlatOk [.int .i64, .int .i64, .int .i64, .int .i64, .int .i64] ((xs.drop (i * 5)).take 5)) : ∃ l : List (Nat → Int), l.length = n ∧ xs = l.flatMap icL := by
  obtain ⟨l, h1, h2, _⟩ := chunks (f := icL) (G := fun _ => True) n xs hn fun i hi => by
    obtain ⟨hl, hc⟩ := h i hi
    generalize (xs.drop (i * 5)).take 5 = cs at hl hc
    match cs, hl with
    | [c0, c1, c2, c3, c4], _ =>
      obtain ⟨z0, rfl, _⟩ := hc 0 _ _ rfl rfl
      obtain ⟨z1, rfl, _⟩ := hc 1 _ _ rfl rfl
      obtain ⟨z2, rfl, _⟩ := hc 2 _ _ rfl rfl
      obtain ⟨z3, rfl, _⟩ := hc 3 _ _ rfl rfl
      obtain ⟨z4, rfl, _⟩ := hc 4 _ _ rfl rfl
      exact ⟨fun j => [z0, z1, z2, z3, z4].getD j 0, rfl, trivial⟩
  exact ⟨l, h1, h2⟩
theorem ba_listM (s : ByteArray) : ∃ l : List UInt8, s = ⟨l.toArray⟩ := ⟨s.data.toList, by apply ByteArray.ext; apply Array.ext'; simp⟩
theorem law_VerifyMore (w : World) (p : Prg) (v : PV) (H : PrgAt w v p) (s : ByteArray) (hs : s.size ≤ 140737488351232) (a : Option Addr) (len cap : Nat) (zs : List Int) (h2 : IsRow .i64 w a len cap zs) (hz : cap * 8 ≤ 140737488351232)
    (v3 : Value) (n : Nat) (xs : List Value) (h : RdC w.heap.size 5 w v3 n xs) (_ : n * 40 ≤ 140737488351232) (hf : ∀ i, i < n → FlatOk [.int .i64, .int .i64, .int .i64, .int .i64, .int .i64] ((xs.drop (i * 5)).take 5)) :
    Calls Try.prog 6 #[pgV p v, .string s, .slice a len cap, v3] w fun e w' => e = .returned (.bool true) ∧ Below w.heap.size w w' := by
  have hx : xs.length = n * 5 := by obtain ⟨_, _, _, _, _, h, _⟩ := h; exact h
  obtain ⟨l, rfl, rfl⟩ := ins_of hx hf
  obtain ⟨tx, rfl⟩ := ba_listM s
  have hl : (zs.take len).length ≤ cap := by
    rw [List.length_take]
    rcases h2 with ⟨_, rfl, rfl, rfl⟩ | ⟨_, _, h3, _, h4, _⟩
    · simp
    · omega
  exact walk_VerifyMore p v w H tx (by simpa [ByteArray.size] using hs) _ _ (RdI.of_row h2) (by omega) v3 l h
end Go.Proofs.Ytkhggnlanopgkaa
