/- Walk: whether merges may be (merge.Texts, merge.Right): the error. Condition: a row of merges. -/
import Derived.Test.YtonkenlkigfeoaaDoorPk20
import Derived.Test.YtonkenlkigfeoaaDoorPk04
import Derived.Deep.CutBlock
import Derived.Lib.JoinLaws
namespace Go.Proofs.YtonkenlkigfeoaaDoor
open Go.RowKit
theorem app_oneG {α : Type} {f : α → List Value} {sz B : Nat} {e : TypeId} {w : World} {v : Value} {l : List α} {P : Program} {ops : Array Oper} {rest : List Oper} {o : Oper} {a : Act} {Q : Exit → Act → World → Prop} {t : TypeId} {z : Value} {cs : Array Value} (bytes : Nat) (h : Nat) (hh : h = w.heap.size) (x : α) (hf : ∀ y, (f y).length = sz) (ho : ∀ u ∈ f x, u.oneCell' = true)
   (h1 : P.underlying t = some (.slice e)) (h2 : (P.info? e).map (fun i => (i.zero, i.size, i.bytes)) = some (some z, sz, bytes)) (hzs : z.cells.size = sz)
   (hg : o.guard = none) (s x' : Operand) (hop : o.op = Op.call { callee := Callee.builtin Builtin.append, args := #[s, x'], argTypes := #[t, t] })
   (hs : a.eval s = v) (hx : a.eval x' = .slice (some ⟨h, 0, none⟩) 1 1) (hcs : cs = (f x).toArray)
   (hown : OwnR f sz B e w v l) (hB : B ≤ w.heap.size) (hbig : (l.length + 1) * bytes ≤ 140737488355328) (hlen : l.length + 1 ≤ maxLen)
   (hK : ∀ v' w', OwnR f sz B e w' v' (l ++ [x]) → Below B w w' → (∀ g ob, w.heap[g]? = some ob → v.ownBlock ≠ some g → w'.heap[g]? = some ob) → wpList P ops Q rest (a.put o.dst v') w') :
   wpList P ops Q (o :: rest) a (w.alloc (.cells cs e)) := by
 subst hcs hh; refine wp_append B sz bytes h1 (.inl h1) h2 hzs hg s x' hop hs 1 (f x) (by rw [hx]; exact lenOf_slice) ?_ (by rw [hf, Nat.one_mul]) ho (OwnC.alloc hown _) (by simp; omega) hbig hlen ?_
 · rw [hx]
   exact firstCells_at (by rw [hf, Nat.one_mul]) (fun j u hj => by
     rw [Addr.add_lit, Nat.zero_add, cell_of_row _ w.heap.size j _ e (0, 0) (Go.heap_alloc_new w _)]
     simpa using hj)
 · intro v' w1 hown' hgrow; refine hK v' w1 ?_ ?_ ?_
   · unfold OwnR; simpa [List.flatMap_append] using hown'
   · exact ((Below.refl _ _).alloc hB _).grown hgrow (by simp; omega) (fun k hk => (OwnC.lt hown k hk).1)
   · intro g ob hgo hne; have hlt := (Array.getElem?_eq_some_iff.1 hgo).1; exact grown_obj hgrow (by rw [Go.heap_alloc_old w _ hlt]; exact hgo) hne
/-- a row's block is no map's -/
theorem own_no_map {α : Type} {f : α → List Value} {sz B : Nat} {e : TypeId} {w : World} {v : Value} {l : List α} (h : OwnR f sz B e w v l) {g : Nat} {es : Array MapEntry} {c : Nat} (hm : w.heap[g]? = some (.map es c)) : v.ownBlock ≠ some g := fun hv => by
 obtain ⟨cs, fz, h'⟩ := h.typed hv; rw [hm] at h'; cases h'
theorem own_put {α : Type} {f : α → List Value} {sz B : Nat} {e : TypeId} {w : World} {v : Value} {l : List α} (h : OwnR f sz B e w v l) {g : Nat} {es : Array MapEntry} {c : Nat} (hm : w.heap[g]? = some (.map es c)) (o : Obj) : OwnR f sz B e (Go.ChangeMaps.setBlock w g o) v l :=
 OwnC.block h fun k hk => Go.ChangeMaps.heap_setBlock_other hm _ (fun e => own_no_map h hm (by rw [← e]; exact hk))
theorem own_room (w : World) (c : Nat) (hc : c ≤ 4096) : OwnR strC 1 w.heap.size 9 (w.alloc (.cells (madeCells #[.string ⟨#[]⟩] c) 9)) (.slice (some ⟨w.heap.size, 0, none⟩) 0 c) ([] : List (List UInt8)) :=
 ⟨by simp, .inr ⟨w.heap.size, c, _, (0, 0), rfl, Nat.le_refl _, Go.heap_alloc_new _ _, fun j _ h => by simp at h, Nat.zero_le _, by unfold maxLen; omega, by rw [size_madeCells, Nat.mul_one], by simp⟩⟩
set_option maxRecDepth 100000 in
set_option maxHeartbeats 4000000 in
theorem merge_Texts (v : Value) (l : List (Int × Int)) (w : World) (h : RowOf mgC 2 w v l) :
   Calls Tryd.prog 54 #[v] w fun e w' => (∃ u, e = .returned (.tuple #[u, .int .i64 (textsE l)]) ∧ (textsE l = 0 → ∃ ts, txTo l l.length = some ts ∧ RowOf strC 1 w' u ts ∧ ∀ t ∈ ts, t.length ≤ 64)) ∧ Below w.heap.size w w' := by
 obtain ⟨ad, cap, rfl, hcap, hmx, hcell⟩ := h.open mgC_len; clear h; obtain ⟨n, hn⟩ : ∃ n, n = l.length := ⟨_, rfl⟩; have Hn := Lib.hid hn; obtain ⟨R, hR⟩ : ∃ R, textsE l = R := ⟨_, rfl⟩; have HR1 : Hid (1024 < n → R = 2) := Lib.hid fun h => by rw [← hR]; exact textsE_long (by rw [← hn]; exact h)
 have HR2 : Hid (¬ 1024 < n → ∀ k, k < n → ∀ ts, txTo l k = some ts → txStep k (l.getD k (0, 0)) ts = none → R = 130) := Lib.hid fun h k hk ts h1 h2 => by rw [← hR]; exact textsE_bad (by rw [← hn]; exact h) (by rw [← hn]; exact hk) h1 h2
 have HR3 : Hid (¬ 1024 < n → ∀ ts, txTo l n = some ts → R = 0) := Lib.hid fun h ts h1 => by rw [← hR]; exact textsE_ok (by rw [← hn]; exact h) (by rw [← hn]; exact h1)
 rw [hR]; rw [← hn] at hcap hcell; rw [← hn]; clear hn hR; unfold maxLen at hmx
 by_cases h1 : 1024 < n
 · have e := HR1.out h1; subst e; go_enter Tryd.func54, Tryd.ntmps54; wkk; go_ret2; exact ⟨⟨_, rfl, fun h => absurd h (by decide)⟩, Below.refl _ _⟩
 have Hbad := Lib.hid (HR2.out h1); have Hok := Lib.hid (HR3.out h1); clear HR1 HR2 HR3; have hmk : ∀ w', (Instr.makeSlice 24 (.int .i64 0) (.int .i64 (256 + (n : Int)))).run Tryd.prog w' = .ok (.slice (some ⟨w'.heap.size, 0, none⟩) 0 (256 + n)) (w'.alloc (.cells (madeCells #[.string ⟨#[]⟩] (256 + n)) 9)) := fun w' => by
   have h := Go.run_make_room (P := Tryd.prog) 24 9 (.string ⟨#[]⟩) 16 Tryd.underlying24 info_str13 rfl .i64 .i64 (256 + n) (by omega) (by omega) w'; rw [Int.natCast_add] at h; exact h
 have hmm := @run_makeMap Tryd.prog; go_enter Tryd.func54, Tryd.ntmps54; wkk; clear hmk; have O0 := Lib.hid (own_room w (256 + n) (by omega)); have B0 := Lib.hid ((Below.refl w.heap.size w).alloc (Nat.le_refl _) (.cells (madeCells #[.string ⟨#[]⟩] (256 + n)) 9)); generalize w.alloc (.cells (madeCells #[.string ⟨#[]⟩] (256 + n)) 9) = w0 at O0 B0 ⊢; generalize (Value.slice (some ⟨w.heap.size, 0, none⟩) 0 (256 + n)) = v0 at O0 ⊢
 go_loopg [19, 4] 256 (fun gk s19 s4 wr => ∃ (b : Nat) (ts : List (List UInt8)), s19 = .int .i64 b ∧ b + gk = 256 ∧ ts.length = b ∧ Hid (ts = (List.range b).map fun b => [u8 b]) ∧ Hid (∀ t ∈ ts, t.length ≤ 64) ∧ Hid (OwnR strC 1 w.heap.size 9 wr s4 ts) ∧ Hid (Below w.heap.size w wr))
 case atStart => exact ⟨0, [], rfl, rfl, rfl, Lib.hid rfl, Lib.hid (fun t ht => by simp at ht), O0, B0⟩
 case round =>
   clear O0 B0; obtain ⟨b, ts, rfl, hb, htl, HT, HS, HO, HB⟩ := hrel
   by_cases hb6 : b < 256
   · have hw1 : IntKind.u8.wrap (b : Int) = (b : Int) := by rw [IntKind.wrap_u8]; omega
     have hown := OwnR.keep HO.out ((Below.refl wr.heap.size wr).alloc (Nat.le_refl _) (.cells #[.int .u8 b] 5)) (Nat.le_refl _); have hwB : w.heap.size ≤ (wr.alloc (.cells #[.int .u8 b] 5)).heap.size := by have := HB.out.size; rw [World.size_alloc]; omega
     wkka (first | (with_reducible refine wp_conv_lit1 Tryd.underlying94 Tryd.underlying5 Tryd.underlying9 rfl _ rfl rfl ?_) | (at_builtin; go_loud (refine app_oneG 16 (wr.heap.size + 1) (by simp) [u8 b] strC_len (by intro y hy; simp [strC] at hy; subst hy; rfl) Tryd.underlying24 info_str13 rfl rfl _ _ rfl rfl rfl rfl hown hwB (by omega) (by unfold maxLen; omega) ?_); intro v4 w4 hown4 hb4 _)); go_roundg (gk - 1)
     case rel => exact ⟨b + 1, ts ++ [[u8 b]], by go_num, by omega, by simp; omega, Lib.hid (by rw [HT.out, List.range_succ, List.map_append]; rfl), Lib.hid (short_snoc HS.out (by simp)), Lib.hid hown4, Lib.hid ((HB.out.alloc HB.out.size _).trans hb4)⟩
     case measure => omega
   · obtain rfl : b = 256 := by omega
     rw [show ((256 : Nat) : Int) = 256 from rfl]; wkk; clear hmm; have HM : Hid (SetS (wr.alloc (.map #[] 0)) wr.heap.size (ts.drop 256)) := Lib.hid (by rw [List.drop_eq_nil_of_le (by omega)]; exact MapAt.new wr); have HB2 : Hid (Below w.heap.size w (wr.alloc (.map #[] 0))) := Lib.hid (HB.out.alloc HB.out.size _); have HO2 := Lib.hid (OwnR.keep HO.out ((Below.refl wr.heap.size wr).alloc (Nat.le_refl _) (.map #[] 0)) (Nat.le_refl _)); have hgm : w.heap.size ≤ wr.heap.size := HB.out.size; have Htl := Lib.hid htl; have HT0 : Hid (txTo l 0 = some ts) := Lib.hid (by rw [HT.out]; rfl)
     clear HB HO HT htl; generalize wr.alloc (.map #[] 0) = wm at HM HB2 HO2 ⊢; generalize wr.heap.size = gm at HM hgm ⊢; have hzu := zero_unitS
     go_loopg [33, 4] n (fun gk s33 s4 wr => ∃ (k : Nat) (ts : List (List UInt8)), s33 = .int .i64 k ∧ k + gk = n ∧ Hid (ts.length = 256 + k) ∧ Hid (txTo l k = some ts) ∧ Hid (∀ t ∈ ts, t.length ≤ 64) ∧ Hid (OwnR strC 1 w.heap.size 9 wr s4 ts) ∧ Hid (SetS wr gm (ts.drop 256)) ∧ Hid (Below w.heap.size w wr))
     case atStart => exact ⟨0, ts, rfl, by omega, Htl, HT0, HS, HO2, HM, HB2⟩
     case round =>
       clear Htl HS HO2 HB2 HT0 HM; obtain ⟨k, ts, rfl, hk, Htl, HT, HS, HO, HM, HB⟩ := hrel
       by_cases hkn : k < n
       · rcases hcell with h0 | ⟨b, off, rfl, hbB, hcell⟩
         · omega
         obtain ⟨c0, c1⟩ := mg_cells hcell k (by rw [← Hn.out]; exact hkn); clear hcell; rw [← HB.out.cell (show b < w.heap.size from hbB)] at c0 c1; have Hb := Lib.hid (fun h => Hbad.out k hkn ts HT.out h); have Hnx : Hid (∀ s, txStep k (l.getD k (0, 0)) ts = some s → txTo l (k + 1) = some s) := Lib.hid fun s h => by rw [txTo, HT.out]; exact h
         generalize l.getD k (0, 0) = mm at c0 c1 Hb Hnx; obtain ⟨L, Rt⟩ := mm; dsimp only at c0 c1; have hkn' : (k : Int) < n := by omega
         by_cases hL0 : L < 0
         · have e := Hb.out (txStep_idx (by dsimp only; omega)); subst e; wkk; go_ret2; exact ⟨⟨_, rfl, fun h => absurd h (by decide)⟩, HB.out.alloc HB.out.size _⟩
         by_cases hL1 : 256 + (k : Int) ≤ L
         · have e := Hb.out (txStep_idx (by dsimp only; omega)); subst e; wkk; go_ret2; exact ⟨⟨_, rfl, fun h => absurd h (by decide)⟩, HB.out.alloc HB.out.size _⟩
         by_cases hR0 : Rt < 0
         · have e := Hb.out (txStep_idx (by dsimp only; omega)); subst e; wkk; go_ret2; exact ⟨⟨_, rfl, fun h => absurd h (by decide)⟩, HB.out.alloc HB.out.size _⟩
         by_cases hR1 : 256 + (k : Int) ≤ Rt
         · have e := Hb.out (txStep_idx (by dsimp only; omega)); subst e; wkk; go_ret2; exact ⟨⟨_, rfl, fun h => absurd h (by decide)⟩, HB.out.alloc HB.out.size _⟩
         obtain ⟨x, rfl⟩ : ∃ x : Nat, L = x := ⟨L.toNat, by omega⟩; obtain ⟨y, rfl⟩ : ∃ y : Nat, Rt = y := ⟨Rt.toNat, by omega⟩; obtain ⟨m, hm⟩ : ∃ m, m = ts.length := ⟨_, rfl⟩; have hmk : m = 256 + k := by rw [hm]; exact Htl.out
         obtain ⟨g4, c4, e4⟩ := HO.out.somewhere (by omega); subst e4; rw [← hm] at HO ⊢; have Hm := Lib.hid hm; have hbx := (Below.refl wr.heap.size wr).alloc (Nat.le_refl _) (.cells #[.int .i64 x, .int .i64 y] 62); have HOx := Lib.hid (HO.out.keep hbx (Nat.le_refl _)); have HMx := Lib.hid (HM.out.keep hbx); have HBx := Lib.hid (HB.out.trans (hbx.mono HB.out.size)); have hxm : x < m := by omega
         have hym : y < m := by omega
         have hm1 : m ≤ k + 256 := by omega
         clear hm hmk
         repeat' (go_not_at_region 15; first | go_values | go_skip | go_guarded | go_step | go_upon)
         clear c0 c1; have hc0 : (wr.alloc (.cells #[.int .i64 x, .int .i64 y] 62)).heap[wr.heap.size]? = some (.cells #[.int .i64 x, .int .i64 y] 62 (0, 0)) := Go.heap_alloc_new _ _; clear hbx HO HB HM; generalize wr.alloc (.cells #[.int .i64 x, .int .i64 y] 62) = wx at HOx HBx HMx hc0 ⊢; generalize wr.heap.size = gx at hc0 ⊢; have hgl : gx < wx.heap.size := (Array.getElem?_eq_some_iff.1 hc0).1; have q0 : ∀ nq : WB wx, nq.1.cell? ⟨gx, 0, none⟩ = some (.int .i64 x) := fun nq => (nq.2.cell hgl).trans (by rw [cell_of_row _ _ 0 _ _ _ hc0]; rfl)
         have q1 : ∀ nq : WB wx, nq.1.cell? ⟨gx, 1, none⟩ = some (.int .i64 y) := fun nq => (nq.2.cell hgl).trans (by rw [cell_of_row _ _ 1 _ _ _ hc0]; rfl)
         have q2 : ∀ nq : WB wx, nq.1.cell? ⟨g4, x, none⟩ = some (.string ⟨(ts.getD x []).toArray⟩) := fun nq => own_str (OwnR.keep HOx.out nq.2 (Nat.le_refl _)) x (by rw [← Hm.out]; exact hxm)
         have q3 : ∀ nq : WB wx, nq.1.cell? ⟨g4, y, none⟩ = some (.string ⟨(ts.getD y []).toArray⟩) := fun nq => own_str (OwnR.keep HOx.out nq.2 (Nat.le_refl _)) y (by rw [← Hm.out]; exact hym)
         have hl1 := getD_all (d := []) HS.out (k := x) (by rw [← Hm.out]; exact hxm); have hl2 := getD_all (d := []) HS.out (k := y) (by rw [← Hm.out]; exact hym); obtain ⟨tx, htx⟩ : ∃ t, ts.getD x [] = t := ⟨_, rfl⟩; obtain ⟨ty, hty⟩ : ∃ t, ts.getD y [] = t := ⟨_, rfl⟩; rw [htx] at q2 hl1; rw [hty] at q3 hl2; have HGx := Lib.hid htx; have HGy := Lib.hid hty; clear htx hty; have hif : ¬ 9223372036854775807 < tx.length + ty.length := by omega
         have hcat := ba_cat13 tx ty; have hl3 : (tx ++ ty).length ≤ 128 := by rw [List.length_append]; omega
         have Hlong : Hid (64 < (tx ++ ty).length → R = 130) := Lib.hid fun h => Hb.out (by
           refine txStep_long ?_; dsimp only
           rw [Int.toNat_natCast, Int.toNat_natCast, HGx.out, HGy.out]; exact h)
         have Hdup : Hid ((tx ++ ty) ∈ ts.drop 256 → R = 130) := Lib.hid fun h => Hb.out (by
           refine txStep_dup ?_; dsimp only
           rw [Int.toNat_natCast, Int.toNat_natCast, HGx.out, HGy.out]; exact h)
         have Hgood : Hid (¬ 64 < (tx ++ ty).length → (tx ++ ty) ∉ ts.drop 256 → txTo l (k + 1) = some (ts ++ [tx ++ ty])) := Lib.hid fun h h' => Hnx.out _ (by
           have e := txStep_ok (k := k) (m := ((x : Int), (y : Int))) (ts := ts) (by dsimp only; omega) (by dsimp only; rw [Int.toNat_natCast, Int.toNat_natCast, HGx.out, HGy.out]; omega) (by dsimp only; rw [Int.toNat_natCast, Int.toNat_natCast, HGx.out, HGy.out]; exact h'); dsimp only at e; rw [Int.toNat_natCast, Int.toNat_natCast, HGx.out, HGy.out] at e
           exact e)
         clear Hb Hnx HGx HGy; generalize tx ++ ty = tz at hcat hl3 Hlong Hdup Hgood; refine wp_region_anyC (by kernel_rfl) wx ?_; refine tkC 0 rfl ?_; refine tkC 1 rfl ?_; refine tkC 2 rfl ?_; refine tkC 3 rfl ?_; refine tkC 4 rfl ?_; refine tkC 5 rfl ?_; refine tkC 6 rfl ?_; refine tkC 7 rfl ?_; refine tkC 8 rfl ?_; refine tkC 9 rfl ?_; refine tkC 10 rfl ?_; refine tkC 11 rfl ?_
         refine genC13 (fun W => Below wx.heap.size wx W ∧ OwnR strC 1 w.heap.size 9 W (.slice (some ⟨g4, 0, none⟩) m c4) ts ∧ SetS W gm (ts.drop 256) ∧ Below w.heap.size w W) ⟨(Below.refl _ _).drew, OwnR.keep HOx.out (Below.refl _ _).drew (Nat.le_refl _), HMx.out.keep (Below.refl _ _).drew, HBx.out.trans ((Below.refl _ _).drew)⟩ ?_; rintro wd ⟨hbd, hod, hmd, hwd⟩; have HO := Lib.hid hod; have HM := Lib.hid hmd; have HB := Lib.hid hwd; refine wpAnyC_done (by kernel_rfl) (CW.of (hbd)) (by go_simp <;> with_reducible rfl) ?_; clear hbd hod hwd hmd HOx HBx HMx
         clear q0 q1 q2 q3 hif hcat hl1 hl2 hc0 hgl hL0 hL1 hR0 hR1 hxm hym; have hbu := (Below.refl wd.heap.size wd).alloc (Nat.le_refl _) (.cells #[] 104); have HMu := Lib.hid (HM.out.keep hbu); have HOu := Lib.hid (OwnR.keep HO.out hbu (Nat.le_refl _)); have HBu := Lib.hid (HB.out.trans (hbu.mono HB.out.size)); have hlook := run_lookS (k := 9) Tryd.underlying9 Tryd.underlying103 zero_unitS tz HM.out
         cases hfi : findIn tz 0 (ts.drop 256) with
         | some j =>
           have e := Hdup.out (by
             by_cases h : tz ∈ ts.drop 256
             · exact h
             · rw [findIn_none.2 h] at hfi; cases hfi)
           subst e; rw [hfi] at hlook; dsimp only [Option.map_some, Option.getD_some, Option.isSome_some, nilV] at hlook; clear hfi Hlong Hdup Hgood hbu HMu HOu HM HO HB; wkk; go_ret2; exact ⟨⟨_, rfl, fun h => absurd h (by decide)⟩, HBu.out⟩
         | none =>
           have hnm : tz ∉ ts.drop 256 := findIn_none.1 hfi; have hput := run_putS (k := 9) Tryd.underlying9 Tryd.underlying103 tz HMu.out hfi; rw [hfi] at hlook; dsimp only [Option.map_none, Option.getD_none, Option.isSome_none] at hlook
           by_cases hz : 64 < tz.length
           · have e := Hlong.out hz; subst e; have hz1 : (64 : Int) < tz.length := by omega
             clear hput hfi Hlong Hdup Hgood hbu HMu HOu HM HO HB hnm; wkk; go_ret2; exact ⟨⟨_, rfl, fun h => absurd h (by decide)⟩, HBu.out⟩
           · have hz1 : ¬ (64 : Int) < tz.length := by omega
             have HT2 := Lib.hid (Hgood.out hz hnm); have HP := HMu.out.put tz; have HOp := own_put HOu.out HMu.out (.map (entsFrom encS nilV 0 (ts.drop 256 ++ [tz])).toArray ((ts.drop 256).length + 1)); have HBp := below_block HBu.out hgm ⟨_, _, HMu.out⟩ (o := .map (entsFrom encS nilV 0 (ts.drop 256 ++ [tz])).toArray ((ts.drop 256).length + 1)); obtain ⟨wp, hwp⟩ : ∃ wp, wp = Go.ChangeMaps.setBlock (wd.alloc (.cells #[] 104)) gm (.map (entsFrom encS nilV 0 (ts.drop 256 ++ [tz])).toArray ((ts.drop 256).length + 1)) := ⟨_, rfl⟩; rw [← hwp] at hput HP HOp HBp
             dsimp only [nilV] at hput; have hne := own_no_map HOp HP; have hwB : w.heap.size ≤ wp.heap.size := HBp.size; have HPh := Lib.hid HP; have HBph := Lib.hid HBp; have Hdr : Hid ((ts ++ [tz]).drop 256 = ts.drop 256 ++ [tz]) := Lib.hid (by rw [List.drop_append_of_le_length (by have := Htl.out; omega)]); clear hwp hfi Hlong Hdup Hgood hbu HMu HOu HM HO HB hnm HP HBp HBu
             wkka (first | (at_builtin; go_loud (refine app_oneG 16 wp.heap.size rfl tz strC_len (by intro y hy; simp [strC] at hy; subst hy; rfl) Tryd.underlying24 info_str13 rfl rfl _ _ rfl rfl rfl rfl HOp hwB (by rw [← Hm.out]; omega) (by rw [← Hm.out]; unfold maxLen; omega) ?_); intro v4 w4 hown4 hb4 hk4)); go_roundg (gk - 1)
             case rel => exact ⟨k + 1, ts ++ [tz], by go_num, by omega, Lib.hid (by rw [List.length_append, Htl.out]; rfl), HT2, Lib.hid (short_snoc HS.out (by omega)), Lib.hid hown4, Lib.hid (by rw [Hdr.out]; exact hk4 gm _ HPh.out hne), Lib.hid (HBph.out.trans hb4)⟩
             case measure => omega
       · obtain rfl : n = k := by omega
         have e := Hok.out ts HT.out; subst e; wkk; go_ret2; exact ⟨⟨_, rfl, fun _ => ⟨ts, HT.out, HO.out.row, HS.out⟩⟩, HB.out⟩
theorem merge_Right (v : Value) (l : List (Int × Int)) (w : World) (h : RowOf mgC 2 w v l) :
   Calls Tryd.prog 37 #[v] w fun e w' => e = .returned (.int .i64 (textsE l)) ∧ Below w.heap.size w w' := by
 have HC := Lib.hid (merge_Texts v l w h); generalize textsE l = R at HC ⊢; obtain ⟨ad, cap, rfl, _⟩ := h.open mgC_len; clear h; go_enter Tryd.func37, Tryd.ntmps37; wkk; refine Calls.mono (HC.out) ?_; rintro _ w1 ⟨⟨u, rfl, _⟩, hb⟩; dsimp only; wkk; go_ret; exact ⟨rfl, hb⟩
end Go.Proofs.YtonkenlkigfeoaaDoor
