/- Walks: whether merges may be (fretsawref13.Texts, merge.Texts): the error. Condition: a row of merges. -/
import Derived.Test.YtonkenlkigfeoaaGreatDoorPk09
import Derived.Test.YtonkenlkigfeoaaGreatDoorPk18
import Derived.Test.YtonkenlkigfeoaaGreatDoorPk05
import Derived.Deep.LoopGhost
namespace Go.Proofs.YtonkenlkigfeoaaGreatDoor
open Go.RowKit
section
variable {k : Nat} {m : Int × Int} {ts : List (List UInt8)}
theorem txStep_idx (h : ¬ ((0 ≤ m.1 ∧ m.1 < 256 + k) ∧ (0 ≤ m.2 ∧ m.2 < 256 + k))) : txStep k m ts = none := by
 unfold txStep; rw [if_neg (fun h' => h ⟨h'.1, h'.2.1⟩)]
theorem txStep_long (h : 64 < (ts.getD m.1.toNat [] ++ ts.getD m.2.toNat []).length) : txStep k m ts = none := by
 unfold txStep; rw [if_neg (fun h' => by have := h'.2.2.1; omega)]
theorem txStep_dup (h : (ts.getD m.1.toNat [] ++ ts.getD m.2.toNat []) ∈ ts.drop 256) : txStep k m ts = none := by
 unfold txStep; rw [if_neg (fun h' => h'.2.2.2 h)]
theorem txStep_ok (h : (0 ≤ m.1 ∧ m.1 < 256 + k) ∧ (0 ≤ m.2 ∧ m.2 < 256 + k)) (h2 : (ts.getD m.1.toNat [] ++ ts.getD m.2.toNat []).length ≤ 64) (h3 : (ts.getD m.1.toNat [] ++ ts.getD m.2.toNat []) ∉ ts.drop 256) :
   txStep k m ts = some (ts ++ [ts.getD m.1.toNat [] ++ ts.getD m.2.toNat []]) := by
 unfold txStep; rw [if_pos ⟨h.1, h.2, h2, h3⟩]
end
theorem in_drop {ts : List (List UInt8)} {tz : List UInt8} {q : Nat} (h1 : 256 ≤ q) (h2 : q < ts.length) (h : ts.getD q [] = tz) : tz ∈ ts.drop 256 := by
 rw [List.getD_eq_getElem?_getD, List.getElem?_eq_getElem h2] at h; refine List.mem_of_getElem? (i := q - 256) ?_; rw [List.getElem?_drop, show 256 + (q - 256) = q by omega, List.getElem?_eq_getElem h2]; exact congrArg some h
theorem notin_drop {ts : List (List UInt8)} {tz : List UInt8} (h : ∀ i, 256 ≤ i → i < ts.length → ts.getD i [] ≠ tz) : tz ∉ ts.drop 256 := fun hm => by
 obtain ⟨i, hi, he⟩ := List.getElem_of_mem hm; rw [List.length_drop] at hi; refine h (256 + i) (by omega) (by omega) ?_; rw [List.getD_eq_getElem?_getD, List.getElem?_eq_getElem (by omega)]; rw [List.getElem_drop] at he; exact he
set_option maxRecDepth 100000 in
set_option maxHeartbeats 4000000 in
theorem ref_TextsE (v : Value) (l : List (Int × Int)) (w : World) (h : RowOf mgC 2 w v l) :
   Calls Tryz.prog 13 #[v] w fun e w' => (∃ u, e = .returned (.tuple #[u, .int .i64 (textsE l)]) ∧ (textsE l = 0 → ∃ ts, txTo l l.length = some ts ∧ RowOf strC 1 w' u ts ∧ ∀ t ∈ ts, t.length ≤ 64)) ∧ Below w.heap.size w w' := by
 obtain ⟨ad, cap, rfl, hcap, hmx, hcell⟩ := h.open mgC_len; clear h; obtain ⟨n, hn⟩ : ∃ n, n = l.length := ⟨_, rfl⟩; have Hn := Lib.hid hn; obtain ⟨R, hR⟩ : ∃ R, textsE l = R := ⟨_, rfl⟩; have HR1 : Hid (1024 < n → R = 2) := Lib.hid fun h => by rw [← hR]; exact textsE_long (by rw [← hn]; exact h)
 have HR2 : Hid (¬ 1024 < n → ∀ k, k < n → ∀ ts, txTo l k = some ts → txStep k (l.getD k (0, 0)) ts = none → R = 130) := Lib.hid fun h k hk ts h1 h2 => by rw [← hR]; exact textsE_bad (by rw [← hn]; exact h) (by rw [← hn]; exact hk) h1 h2
 have HR3 : Hid (¬ 1024 < n → ∀ ts, txTo l n = some ts → R = 0) := Lib.hid fun h ts h1 => by rw [← hR]; exact textsE_ok (by rw [← hn]; exact h) (by rw [← hn]; exact h1)
 rw [hR]; rw [← hn] at hcap hcell; rw [← hn]; clear hn hR; unfold maxLen at hmx
 by_cases h1 : 1024 < n
 · have e := HR1.out h1; subst e; go_enter Tryz.func13, Tryz.ntmps13; wkk; go_ret2; exact ⟨⟨_, rfl, fun h => absurd h (by decide)⟩, Below.refl _ _⟩
 have Hbad := Lib.hid (HR2.out h1); have Hok := Lib.hid (HR3.out h1); clear HR1 HR2 HR3; go_enter Tryz.func13, Tryz.ntmps13; wkk; have O0 := Lib.hid (own_empty (f := strC) (sz := 1) (e := 9) w (Nat.le_refl _)); have B0 := Lib.hid ((Below.refl w.heap.size w).alloc (Nat.le_refl _) (.cells #[] 9)); generalize w.alloc (.cells #[] 9) = w0 at O0 B0 ⊢
 go_loopw [5, 4] (fun s5 s4 wr => ∃ (b : Nat) (ts : List (List UInt8)), s5 = .int .i64 b ∧ b ≤ 256 ∧ ts.length = b ∧ Hid (ts = (List.range b).map fun b => [u8 b]) ∧ Hid (∀ t ∈ ts, t.length ≤ 64) ∧ Hid (OwnR strC 1 w.heap.size 9 wr s4 ts) ∧ Hid (Below w.heap.size w wr)) (fun s5 _ _ => 256 - (intOf s5).toNat)
 case atStart => exact ⟨0, [], rfl, Nat.zero_le _, rfl, Lib.hid rfl, Lib.hid (fun t ht => by simp at ht), O0, B0⟩
 case round =>
   clear O0 B0; obtain ⟨b, ts, rfl, hb, htl, HT, HS, HO, HB⟩ := hrel
   by_cases hb6 : b < 256
   · have hw1 : IntKind.u8.wrap (b : Int) = (b : Int) := by rw [IntKind.wrap_u8]; omega
     have hown := OwnR.keep HO.out ((Below.refl wr.heap.size wr).alloc (Nat.le_refl _) (.cells #[.int .u8 b] 5)) (Nat.le_refl _); have hwB : w.heap.size ≤ (wr.alloc (.cells #[.int .u8 b] 5)).heap.size := by have := HB.out.size; rw [World.size_alloc]; omega
     wkka (first | (with_reducible refine wp_conv_lit1 Tryz.underlying82 Tryz.underlying5 Tryz.underlying9 rfl _ rfl rfl ?_) | (at_builtin; go_loud (refine app_one 16 (wr.heap.size + 1) (by simp) [u8 b] strC_len (by intro y hy; simp [strC] at hy; subst hy; rfl) Tryz.underlying31 info_str13 rfl rfl _ _ rfl rfl rfl rfl hown hwB (by omega) (by unfold maxLen; omega) ?_); intro v4 w4 hown4 hb4 hk4 _))
     go_roundw
     case rel => exact ⟨b + 1, ts ++ [[u8 b]], by go_num, by omega, by simp; omega, Lib.hid (by rw [HT.out, List.range_succ, List.map_append]; rfl), Lib.hid (short_snoc HS.out (by simp)), Lib.hid hown4, Lib.hid ((HB.out.alloc HB.out.size _).trans hb4)⟩
     case measure => simp [intOf]; omega
   · obtain rfl : b = 256 := by omega
     rw [show ((256 : Nat) : Int) = 256 from rfl]; wkk; have Htl := Lib.hid htl; have HT0 : Hid (txTo l 0 = some ts) := Lib.hid (by rw [HT.out]; rfl); clear htl HT
     go_loopw [27, 4] (fun s27 s4 wr => ∃ (k : Nat) (ts : List (List UInt8)), s27 = .int .i64 k ∧ k ≤ n ∧ Hid (ts.length = 256 + k) ∧ Hid (txTo l k = some ts) ∧ Hid (∀ t ∈ ts, t.length ≤ 64) ∧ Hid (OwnR strC 1 w.heap.size 9 wr s4 ts) ∧ Hid (Below w.heap.size w wr)) (fun s27 _ _ => n - (intOf s27).toNat)
     case atStart => exact ⟨0, ts, rfl, Nat.zero_le _, Htl, HT0, HS, HO, HB⟩
     case round =>
       clear Htl HS HO HB HT0; obtain ⟨k, ts, rfl, hk, Htl, HT, HS, HO, HB⟩ := hrel
       by_cases hkn : k < n
       · rcases hcell with h0 | ⟨b, off, rfl, hbB, hcell⟩
         · omega
         obtain ⟨c0, c1⟩ := mg_cells hcell k (by rw [← Hn.out]; exact hkn); clear hcell; rw [← HB.out.cell (show b < w.heap.size from hbB)] at c0 c1; have Hb := Lib.hid (fun h => Hbad.out k hkn ts HT.out h); have Hnx : Hid (∀ s, txStep k (l.getD k (0, 0)) ts = some s → txTo l (k + 1) = some s) := Lib.hid fun s h => by rw [txTo, HT.out]; exact h
         generalize l.getD k (0, 0) = mm at c0 c1 Hb Hnx; obtain ⟨L, Rt⟩ := mm; dsimp only at c0 c1
         by_cases hL0 : L < 0
         · have e := Hb.out (txStep_idx (by dsimp only; omega)); subst e; wkk; go_ret2; exact ⟨⟨_, rfl, fun h => absurd h (by decide)⟩, HB.out.alloc HB.out.size _⟩
         by_cases hL1 : 255 + (k : Int) < L
         · have e := Hb.out (txStep_idx (by dsimp only; omega)); subst e; have hL0' : 0 ≤ L := by omega
           wkk; go_ret2; exact ⟨⟨_, rfl, fun h => absurd h (by decide)⟩, HB.out.alloc HB.out.size _⟩
         by_cases hR0 : Rt < 0
         · have e := Hb.out (txStep_idx (by dsimp only; omega)); subst e; have hL0' : 0 ≤ L := by omega
           have hL1' : L ≤ 255 + (k : Int) := by omega
           wkk; go_ret2; exact ⟨⟨_, rfl, fun h => absurd h (by decide)⟩, HB.out.alloc HB.out.size _⟩
         by_cases hR1 : 255 + (k : Int) < Rt
         · have e := Hb.out (txStep_idx (by dsimp only; omega)); subst e; have hL0' : 0 ≤ L := by omega
           have hL1' : L ≤ 255 + (k : Int) := by omega
           have hR0' : 0 ≤ Rt := by omega
           wkk; go_ret2; exact ⟨⟨_, rfl, fun h => absurd h (by decide)⟩, HB.out.alloc HB.out.size _⟩
         obtain ⟨x, rfl⟩ : ∃ x : Nat, L = x := ⟨L.toNat, by omega⟩; obtain ⟨y, rfl⟩ : ∃ y : Nat, Rt = y := ⟨Rt.toNat, by omega⟩; have hx0 : (0 : Int) ≤ x := by omega
         have hy0 : (0 : Int) ≤ y := by omega
         have hx1 : (x : Int) ≤ 255 + (k : Int) := by omega
         have hy1 : (y : Int) ≤ 255 + (k : Int) := by omega
         clear hL0 hL1 hR0 hR1; obtain ⟨m, hm⟩ : ∃ m, m = ts.length := ⟨_, rfl⟩; have hmk : m = 256 + k := by rw [hm]; exact Htl.out
         obtain ⟨g4, c4, e4⟩ := HO.out.somewhere (by omega); subst e4; rw [← hm] at HO ⊢; have Hm := Lib.hid hm; have hm1 : k + 255 < m := by omega
         have hm2 : m ≤ k + 256 := by omega
         clear hm hmk; have hbx := (Below.refl wr.heap.size wr).alloc (Nat.le_refl _) (.cells #[.int .i64 x, .int .i64 y] 53); have HOx := Lib.hid (HO.out.keep hbx (Nat.le_refl _)); have HBx := Lib.hid (HB.out.trans (hbx.mono HB.out.size)); have hxm : x < m := by omega
         have hym : y < m := by omega
         repeat' (go_not_at_region 13; first | go_values | go_skip | go_guarded | go_step | go_upon)
         clear c0 c1; have hc0 : (wr.alloc (.cells #[.int .i64 x, .int .i64 y] 53)).heap[wr.heap.size]? = some (.cells #[.int .i64 x, .int .i64 y] 53 (0, 0)) := Go.heap_alloc_new _ _; clear hbx HO HB; generalize wr.alloc (.cells #[.int .i64 x, .int .i64 y] 53) = wx at HOx HBx hc0 ⊢; generalize wr.heap.size = gx at hc0 ⊢; have hgl : gx < wx.heap.size := (Array.getElem?_eq_some_iff.1 hc0).1; have q0 : ∀ nq : WB wx, nq.1.cell? ⟨gx, 0, none⟩ = some (.int .i64 x) := fun nq => (nq.2.cell hgl).trans (by rw [cell_of_row _ _ 0 _ _ _ hc0]; rfl)
         have q1 : ∀ nq : WB wx, nq.1.cell? ⟨gx, 1, none⟩ = some (.int .i64 y) := fun nq => (nq.2.cell hgl).trans (by rw [cell_of_row _ _ 1 _ _ _ hc0]; rfl)
         have q2 : ∀ nq : WB wx, nq.1.cell? ⟨g4, x, none⟩ = some (.string ⟨(ts.getD x []).toArray⟩) := fun nq => own_str (OwnR.keep HOx.out nq.2 (Nat.le_refl _)) x (by rw [← Hm.out]; exact hxm)
         have q3 : ∀ nq : WB wx, nq.1.cell? ⟨g4, y, none⟩ = some (.string ⟨(ts.getD y []).toArray⟩) := fun nq => own_str (OwnR.keep HOx.out nq.2 (Nat.le_refl _)) y (by rw [← Hm.out]; exact hym)
         have hl1 := getD_all (d := []) HS.out (k := x) (by rw [← Hm.out]; exact hxm); have hl2 := getD_all (d := []) HS.out (k := y) (by rw [← Hm.out]; exact hym); obtain ⟨tx, htx⟩ : ∃ t, ts.getD x [] = t := ⟨_, rfl⟩; obtain ⟨ty, hty⟩ : ∃ t, ts.getD y [] = t := ⟨_, rfl⟩; rw [htx] at q2 hl1; rw [hty] at q3 hl2; have HGx := Lib.hid htx; have HGy := Lib.hid hty; clear htx hty; have hif : ¬ 9223372036854775807 < tx.length + ty.length := by omega
         have hcat := ba_cat13 tx ty; have hl3 : (tx ++ ty).length ≤ 128 := by rw [List.length_append]; omega
         have Hlong : Hid (64 < (tx ++ ty).length → R = 130) := Lib.hid fun h => Hb.out (by
           refine txStep_long ?_; dsimp only
           rw [Int.toNat_natCast, Int.toNat_natCast, HGx.out, HGy.out]; exact h)
         have Hdup : Hid ((tx ++ ty) ∈ ts.drop 256 → R = 130) := Lib.hid fun h => Hb.out (by
           refine txStep_dup ?_; dsimp only
           rw [Int.toNat_natCast, Int.toNat_natCast, HGx.out, HGy.out]; exact h)
         have Hgood : Hid (¬ 64 < (tx ++ ty).length → (tx ++ ty) ∉ ts.drop 256 → txTo l (k + 1) = some (ts ++ [tx ++ ty])) := Lib.hid fun h h' => Hnx.out _ (by
           have e := txStep_ok (k := k) (m := ((x : Int), (y : Int))) (ts := ts) (by dsimp only; omega) (by dsimp only; rw [Int.toNat_natCast, Int.toNat_natCast, HGx.out, HGy.out]; omega) (by dsimp only; rw [Int.toNat_natCast, Int.toNat_natCast, HGx.out, HGy.out]; exact h'); dsimp only at e; rw [Int.toNat_natCast, Int.toNat_natCast, HGx.out, HGy.out] at e
           exact e)
         clear Hb Hnx HGx HGy; generalize tx ++ ty = tz at hcat hl3 Hlong Hdup Hgood; refine wp_region_anyC (by kernel_rfl) wx ?_; refine tkC 0 rfl ?_; refine tkC 1 rfl ?_; refine tkC 2 rfl ?_; refine tkC 3 rfl ?_; refine tkC 4 rfl ?_; refine tkC 5 rfl ?_; refine tkC 6 rfl ?_; refine tkC 7 rfl ?_; refine tkC 8 rfl ?_; refine tkC 9 rfl ?_; refine tkC 10 rfl ?_; refine tkC 11 rfl ?_
         refine genC13 (fun W => Below wx.heap.size wx W ∧ OwnR strC 1 w.heap.size 9 W (.slice (some ⟨g4, 0, none⟩) m c4) ts ∧ Below w.heap.size w W) ⟨(Below.refl _ _).drew, OwnR.keep HOx.out (Below.refl _ _).drew (Nat.le_refl _), HBx.out.trans ((Below.refl _ _).drew)⟩ ?_; rintro wd ⟨hbd, hod, hwd⟩; have HO := Lib.hid hod; have HB := Lib.hid hwd; refine wpAnyC_done (by kernel_rfl) (CW.of (hbd)) (by go_simp <;> with_reducible rfl) ?_; clear hbd hod hwd HOx HBx; clear q0 q1 q2 q3 hif hcat hl1 hl2 hc0 hgl
         by_cases hz : 64 < tz.length
         · have hz1 : (64 : Int) < tz.length := by omega
           have e := Hlong.out hz; subst e; wkk; go_ret2; exact ⟨⟨_, rfl, fun h => absurd h (by decide)⟩, HB.out⟩
         · have hz1 : (tz.length : Int) ≤ 64 := by omega
           wkk
           go_loopw [9] (fun s9 wr => ∃ q : Nat, s9 = .int .i64 q ∧ 256 ≤ q ∧ q ≤ m ∧ Hid (∀ i, 256 ≤ i → i < q → ts.getD i [] ≠ tz) ∧ Hid (OwnR strC 1 w.heap.size 9 wr (.slice (some ⟨g4, 0, none⟩) m c4) ts) ∧ Hid (Below w.heap.size w wr)) (fun s9 _ => m - (intOf s9).toNat)
           case atStart => exact ⟨256, rfl, Nat.le_refl _, by omega, Lib.hid (fun i h1 h2 => by omega), HO, HB⟩
           case round =>
             clear HO HB; obtain ⟨q, rfl, hq6, hq, HN, HO, HB⟩ := hrel
             by_cases hqm : q < m
             · have q9 := own_str HO.out q (by rw [← Hm.out]; exact hqm); have Hin : Hid (ts.getD q [] = tz → tz ∈ ts.drop 256) := Lib.hid fun h => in_drop hq6 (by rw [← Hm.out]; exact hqm) h
               have HN2 : Hid (ts.getD q [] ≠ tz → ∀ i, 256 ≤ i → i < q + 1 → ts.getD i [] ≠ tz) := Lib.hid fun h i h1 h2 => by
                 by_cases e : i = q
                 · rw [e]; exact h
                 · exact HN.out i h1 (by omega)
               clear HN; generalize ts.getD q [] = tq at q9 Hin HN2
               by_cases he : tq = tz
               · have e := Hdup.out (Hin.out he); subst e he; wkk; go_ret2; exact ⟨⟨_, rfl, fun h => absurd h (by decide)⟩, HB.out⟩
               · have heb : (tq == tz) = false := beq_false_of_ne he; have HN3 := Lib.hid (HN2.out he); clear HN2 Hin; wkk
                 go_roundw
                 case rel => exact ⟨q + 1, by go_num, by omega, by omega, HN3, HO, HB⟩
                 case measure => simp [intOf]; omega
             · obtain rfl : m = q := by omega
               have HT2 := Lib.hid (Hgood.out hz (notin_drop fun i h1 h2 => HN.out i h1 (by rw [Hm.out]; exact h2))); clear HN Hgood Hdup Hlong; have hown := HO.out; have hwB := HB.out.size; wkka (first | (at_builtin; go_loud (refine app_one 16 wr.heap.size rfl tz strC_len (by intro y hy; simp [strC] at hy; subst hy; rfl) Tryz.underlying31 info_str13 rfl rfl _ _ rfl rfl rfl rfl hown hwB (by rw [← Hm.out]; omega) (by rw [← Hm.out]; unfold maxLen; omega) ?_); intro v4 w4 hown4 hb4 hk4 _))
               go_roundw
               case rel => exact ⟨k + 1, ts ++ [tz], by go_num, by omega, Lib.hid (by rw [List.length_append, Htl.out]; rfl), HT2, Lib.hid (short_snoc HS.out (by omega)), Lib.hid hown4, Lib.hid (HB.out.trans hb4)⟩
               case measure => simp [intOf]; omega
       · obtain rfl : n = k := by omega
         have e := Hok.out ts HT.out; subst e; wkk; go_ret2; exact ⟨⟨_, rfl, fun _ => ⟨ts, HT.out, HO.out.row, HS.out⟩⟩, HB.out⟩
end Go.Proofs.YtonkenlkigfeoaaGreatDoor
