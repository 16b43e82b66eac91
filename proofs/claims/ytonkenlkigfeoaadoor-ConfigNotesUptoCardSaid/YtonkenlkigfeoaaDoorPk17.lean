/- Walks: which rules may be, how much they let grow (rule.Right, rule.Grow, and the reference's). Condition: the rules lie in memory. -/
import Derived.Test.YtonkenlkigfeoaaDoorPk07
import Derived.Test.YtonkenlkigfeoaaDoorPk05
import Derived.Test.YtonkenlkigfeoaaDoorPk03
import Derived.Deep.LoopGhost
import Derived.Deep.WholeRow
namespace Go.Proofs.YtonkenlkigfeoaaDoor
open Go.RowKit Go.Deep
/-- a rule's cells -/
def ruC (r : RuleP) : List Value := [.string ⟨r.1.toArray⟩, .string ⟨r.2.toArray⟩]
theorem ruC_len (r : RuleP) : (ruC r).length = 2 := rfl
theorem ru_cells {w : World} {b off : Nat} {l : List RuleP} (h : ∀ (i : Nat) (x : RuleP) (j : Nat), l[i]? = some x → j < 2 → w.cell? ⟨b, off + (i * 2 + j), none⟩ = (ruC x)[j]?) (k : Nat) (hk : k < l.length) :
   w.cell? ⟨b, off + k * 2, none⟩ = some (.string ⟨(frm l k).toArray⟩) ∧ w.cell? ⟨b, off + k * 2 + 1, none⟩ = some (.string ⟨(rto l k).toArray⟩) := by
 have hx : l[k]? = some (l.getD k ([], [])) := by rw [List.getD_eq_getElem?_getD, List.getElem?_eq_getElem hk]; rfl
 exact ⟨h k _ 0 hx (by decide), h k _ 1 hx (by decide)⟩
theorem zero_unitS (w : World) : (zeroValue 104).run Tryd.prog w = .ok (.agg #[]) w := by
 have h : (Tryd.prog.info? 104).map (fun i => (i.zero, i.size)) = some (some (.agg #[]), 0) := by kernel_rfl
 exact (zero_of_info h).1 w
/-- what the first so many look for -/
def frms (l : List RuleP) (k : Nat) : List (List UInt8) := (List.range k).map (frm l)
theorem frms_succ (l : List RuleP) (k : Nat) : frms l (k + 1) = frms l k ++ [frm l k] := by
 unfold frms; rw [List.range_succ, List.map_append]; rfl
theorem frms_mem {l : List RuleP} {k : Nat} {a : List UInt8} : a ∈ frms l k ↔ ∃ j, j < k ∧ frm l j = a := by
 unfold frms; simp only [List.mem_map, List.mem_range]
set_option maxRecDepth 100000 in
set_option maxHeartbeats 4000000 in
theorem rule_Right (v : Value) (l : List RuleP) (w : World) (h : RowOf ruC 2 w v l) :
   Calls Tryd.prog 50 #[v] w fun e w' => e = .returned (.int .i64 (ruleE l)) ∧ Below w.heap.size w w' := by
 obtain ⟨a, cap, rfl, hcap, hmx, hcell⟩ := h.open ruC_len; obtain ⟨R, hR⟩ : ∃ R, ruleE l = R := ⟨_, rfl⟩; have H1 : Hid (64 < l.length → R = 2) := Lib.hid fun h => by rw [← hR]; exact ruleE_long h
 have H2 : Hid (¬ 64 < l.length → ∀ i, i < l.length → badR l i → R = 110) := Lib.hid fun h i hi hb => by rw [← hR]; exact ruleE_bad h hi hb
 have H3 : Hid (¬ 64 < l.length → (∀ i, i < l.length → ¬ badR l i) → R = 0) := Lib.hid fun h hb => by rw [← hR]; exact ruleE_ok h hb
 rw [hR]; obtain ⟨n, hn⟩ : ∃ n, l.length = n := ⟨_, rfl⟩; have Hlen := Lib.hid (fun (k : Nat) (h : k < n) => (by rw [hn]; exact h : k < l.length)); rw [hn] at hcap H1 H2 H3 ⊢; unfold maxLen at hmx; clear hn hR h; have hmm := @run_makeMap Tryd.prog
 by_cases h64 : 64 < n
 · have e := H1.out h64; subst e; have h64' : (64 : Int) < n := by omega
   go_enter Tryd.func50, Tryd.ntmps50; wkk; go_ret; exact ⟨rfl, Below.refl _ _⟩
 have h64' : ¬ (64 : Int) < n := by omega
 have Hbad := Lib.hid (H2.out h64); have Hok := Lib.hid (H3.out h64); clear H1 H2 H3; have hzu := zero_unitS; go_enter Tryd.func50, Tryd.ntmps50; wkk; clear hmm; have HM : Hid (SetS (w.alloc (.map #[] 0)) w.heap.size ([] : List (List UInt8))) := Lib.hid (MapAt.new w); have HB : Hid (Below w.heap.size w (w.alloc (.map #[] 0))) := Lib.hid ((Below.refl _ _).alloc (Nat.le_refl _) _); obtain ⟨gm, hgm⟩ : ∃ g, g = w.heap.size := ⟨_, rfl⟩; have hgm' : w.heap.size ≤ gm := by omega
 rw [← hgm] at HM ⊢; clear hgm; generalize w.alloc (.map #[] 0) = w1 at HM HB ⊢
 go_loopg [14] n (fun gk s14 wr => ∃ k : Nat, s14 = .int .i64 k ∧ k + gk = n ∧ Hid (∀ i, i < k → ¬ badR l i) ∧ Hid (SetS wr gm (frms l k)) ∧ Hid (Below w.heap.size w wr))
 case atStart => exact ⟨0, rfl, by omega, Lib.hid (fun i hi => by omega), HM, HB⟩
 case round =>
   clear HM HB; obtain ⟨k, rfl, hk, HG, HM, HB⟩ := hrel
   by_cases hkn : k < n
   · have hkl : k < l.length := Hlen.out k hkn
     rcases hcell with h0 | ⟨b, off, rfl, hbB, hcell⟩
     · omega
     obtain ⟨c0, c1⟩ := ru_cells hcell k hkl; rw [← HB.out.cell hbB] at c0 c1; have Hb1 : Hid (frm l k = [] → R = 110) := Lib.hid fun h => Hbad.out k hkn (.inl (by rw [h]; exact Nat.lt_add_one 0))
     have Hb2 : Hid (16 < (frm l k).length → R = 110) := Lib.hid fun h => Hbad.out k hkn (.inr (.inl h))
     have Hb3 : Hid (32 < (rto l k).length → R = 110) := Lib.hid fun h => Hbad.out k hkn (.inr (.inr (.inl h)))
     have Hb4 : Hid (frm l k ∈ frms l k → R = 110) := Lib.hid fun h => Hbad.out k hkn (.inr (.inr (.inr (frms_mem.1 h))))
     have Hg : Hid (frm l k ≠ [] → ¬ 16 < (frm l k).length → ¬ 32 < (rto l k).length → frm l k ∉ frms l k → ∀ i, i < k + 1 → ¬ badR l i) := Lib.hid fun h1 h2 h3 h4 i hi hb => by
       by_cases e : i = k
       · subst e
         rcases hb with h | h | h | h
         · exact h1 (List.length_eq_zero_iff.1 (by omega))
         · exact h2 h
         · exact h3 h
         · exact h4 (frms_mem.2 h)
       · exact HG.out i (by omega) hb
     have Hsn : Hid (frms l (k + 1) = frms l k ++ [frm l k]) := Lib.hid (frms_succ l k); clear hcell; generalize frms l k = ks at HM Hb4 Hg Hsn; generalize frm l k = f at c0 Hb1 Hb2 Hb4 Hg Hsn; generalize rto l k = t at c1 Hb3 Hg; obtain ⟨wx, hwx⟩ : ∃ wx, wx = wr.alloc (.cells #[.string ⟨f.toArray⟩, .string ⟨t.toArray⟩] 60) := ⟨_, rfl⟩; obtain ⟨wy, hwy⟩ : ∃ wy, wy = wx.alloc (.cells #[] 104) := ⟨_, rfl⟩; have hbx : Below wr.heap.size wr wx := by rw [hwx]; exact (Below.refl _ _).alloc (Nat.le_refl _) _
     have hby : Below wx.heap.size wx wy := by rw [hwy]; exact (Below.refl _ _).alloc (Nat.le_refl _) _
     have HX := Lib.hid (HM.out.keep hbx); have HY := Lib.hid (HX.out.keep hby); have hBy : Below w.heap.size w wy := (HB.out.trans (hbx.mono HB.out.size)).trans (hby.mono (Nat.le_trans HB.out.size hbx.size)); have HBy := Lib.hid hBy; have hlook := run_lookS (k := 9) Tryd.underlying9 Tryd.underlying103 zero_unitS f HX.out; rw [hwx] at hlook
     cases hfi : findIn f 0 ks with
     | some j =>
       have e := Hb4.out (by
         by_cases h : f ∈ ks
         · exact h
         · rw [findIn_none.2 h] at hfi; cases hfi)
       subst e; rw [hfi] at hlook; dsimp only [Option.map_some, Option.getD_some, Option.isSome_some, nilV] at hlook; rw [hwy, hwx] at HBy; clear hfi Hb1 Hb2 Hb3 Hb4 Hg Hsn Hbad Hok HX HY HM HB hbx hby hBy HG hwy hwx; wkk; go_ret; exact ⟨rfl, HBy.out⟩
     | none =>
       have hnm : f ∉ ks := findIn_none.1 hfi; have hput := run_putS (k := 9) Tryd.underlying9 Tryd.underlying103 f HY.out hfi; have HP := Lib.hid (HY.out.put f); have HBp := below_block hBy hgm' ⟨_, _, HY.out⟩ (o := .map (entsFrom encS nilV 0 (ks ++ [f])).toArray (ks.length + 1)); obtain ⟨wp, hwp⟩ : ∃ wp, wp = Go.ChangeMaps.setBlock wy gm (.map (entsFrom encS nilV 0 (ks ++ [f])).toArray (ks.length + 1)) := ⟨_, rfl⟩; rw [← hwp] at hput HP HBp; have HBP := Lib.hid HBp; dsimp only [nilV] at hput; rw [hfi] at hlook
       dsimp only [Option.map_none, Option.getD_none, Option.isSome_none] at hlook; rw [hwy, hwx] at hput HBy; clear hfi Hb4 HX HY HM HB hbx hby hBy HBp HG hwp hwy hwx
       by_cases h1 : f = []
       · have e := Hb1.out h1; subst e h1; wkk; go_ret; exact ⟨rfl, HBy.out⟩
       have hb1 : (f == []) = false := beq_false_of_ne h1
       by_cases h2 : 16 < f.length
       · have e := Hb2.out h2; subst e; have h2' : (16 : Int) < f.length := by omega
         wkk; go_ret; exact ⟨rfl, HBy.out⟩
       have h2' : ¬ (16 : Int) < f.length := by omega
       by_cases h3 : 32 < t.length
       · have e := Hb3.out h3; subst e; have h3' : (32 : Int) < t.length := by omega
         wkk; go_ret; exact ⟨rfl, HBy.out⟩
       have h3' : ¬ (32 : Int) < t.length := by omega
       have HG2 := Lib.hid (Hg.out h1 h2 h3 hnm); clear Hg Hb1 Hb2 Hb3 hnm h1 h2 h3; wkk; go_roundg (gk - 1)
       case rel => exact ⟨k + 1, by go_num, by omega, HG2, Lib.hid (by rw [Hsn.out]; exact HP.out), HBP⟩
       case measure => omega
   · obtain rfl : n = k := by omega
     have e := Hok.out HG.out; subst e; wkk; go_ret; exact ⟨rfl, HB.out⟩
theorem up_tdiv {f t : Nat} (hf : 1 ≤ f) : ((t : Int) + (f : Int) - 1).tdiv (f : Int) = (upN f t : Nat) := by
 have h : (t : Int) + (f : Int) - 1 = ((t + f - 1 : Nat) : Int) := by omega
 rw [h, Int.tdiv_eq_ediv_of_nonneg (by omega)]; rfl
set_option maxRecDepth 100000 in
set_option maxHeartbeats 4000000 in
theorem rule_Grow (v : Value) (l : List RuleP) (w : World) (h : RowOf ruC 2 w v l) :
   Calls Tryd.prog 34 #[v] w fun e w' => ∃ n : Int, e = .returned (.tuple #[.int .i64 n, .int .i64 (ruleE l)]) ∧ (ruleE l = 0 → n = growN l) ∧ Below w.heap.size w w' := by
 have HC := Lib.hid (rule_Right v l w h); obtain ⟨a, cap, rfl, hcap, hmx, hcell⟩ := h.open ruC_len; obtain ⟨R, hR⟩ : ∃ R, ruleE l = R := ⟨_, rfl⟩; have HR : Hid (R = 0 → ruleE l = 0) := Lib.hid fun h => by rw [hR]; exact h
 rw [hR] at HC ⊢; obtain ⟨n, hn⟩ : ∃ n, l.length = n := ⟨_, rfl⟩; have Hn := Lib.hid hn; rw [hn] at hcap HC ⊢; unfold maxLen at hmx; clear hn hR h; go_enter Tryd.func34, Tryd.ntmps34; wkk; refine Calls.mono (HC.out) ?_; rintro _ w1 ⟨rfl, hb1⟩; dsimp only; have HB := Lib.hid hb1; clear hb1 HC
 by_cases h0 : R = 0
 rotate_left
 · have hne : (R != 0) = true := by rw [bne_iff_ne]; exact h0
   wkk; go_ret2; exact ⟨0, rfl, fun h => absurd h h0, HB.out⟩
 have h00 := HR.out h0; subst h0; obtain ⟨hl64, hgood⟩ := ruleE_open h00; rw [Hn.out] at hl64 hgood; have Hgood := Lib.hid hgood; have Hgl := Lib.hid (fun k (hk : k ≤ n) => growTo_le h00 k (by rw [Hn.out]; exact hk)); clear hgood h00 HR; wkk
 go_loopg [5, 15] n (fun gk s5 s15 wr => ∃ (k m : Nat), s15 = .int .i64 k ∧ s5 = .int .i64 m ∧ k + gk = n ∧ Hid (m = growTo l k) ∧ Hid (Below w.heap.size w wr))
 case atStart => exact ⟨0, 1, rfl, rfl, by omega, Lib.hid rfl, HB⟩
 case round =>
   clear HB; obtain ⟨k, m, rfl, rfl, hk, Hm, HB⟩ := hrel
   by_cases hkn : k < n
   · have hkl : k < l.length := by rw [Hn.out]; exact hkn
     have hm32 := Hgl.out k (by omega); rw [← Hm.out] at hm32; have hbk := Hgood.out k hkn; unfold badR at hbk; have hf1 : 1 ≤ (frm l k).length := by
       by_cases h : (frm l k).length < 1
       · exact absurd (.inl h) hbk
       · omega
     have hf2 : (frm l k).length ≤ 16 := by
       by_cases h : 16 < (frm l k).length
       · exact absurd (.inr (.inl h)) hbk
       · omega
     have ht2 : (rto l k).length ≤ 32 := by
       by_cases h : 32 < (rto l k).length
       · exact absurd (.inr (.inr (.inl h))) hbk
       · omega
     have Hs : Hid (growTo l (k + 1) = max m (upN (frm l k).length (rto l k).length)) := Lib.hid (by rw [growTo, Hm.out])
     rcases hcell with h0 | ⟨b, off, rfl, hbB, hcell⟩
     · omega
     obtain ⟨c0, c1⟩ := ru_cells hcell k hkl; rw [← HB.out.cell hbB] at c0 c1; clear hcell hbk; generalize frm l k = f at c0 hf1 hf2 Hs; generalize rto l k = t at c1 ht2 Hs; have hq := up_tdiv (t := t.length) hf1; have hu := upN_le hf1 ht2; generalize upN f.length t.length = u at hq hu Hs; have hfz : ((f.length : Int) == 0) = false := beq_false_of_ne (by omega); have HBx : Hid (Below w.heap.size w (wr.alloc (.cells #[.string ⟨f.toArray⟩, .string ⟨t.toArray⟩] 60))) := Lib.hid (HB.out.alloc HB.out.size _)
     by_cases hmu : (m : Int) < (u : Int)
     · have e : max m u = u := by omega
       wkk; go_roundg (gk - 1)
       case rel => exact ⟨k + 1, u, by go_num, rfl, by omega, Lib.hid (by rw [Hs.out, e]), HBx⟩
       case measure => omega
     · have e : max m u = m := by omega
       wkk; go_roundg (gk - 1)
       case rel => exact ⟨k + 1, m, by go_num, rfl, by omega, Lib.hid (by rw [Hs.out, e]), HBx⟩
       case measure => omega
   · obtain rfl : n = k := by omega
     wkk; go_ret2; exact ⟨m, rfl, fun _ => by rw [Hm.out]; unfold growN; rw [Hn.out], HB.out⟩
end Go.Proofs.YtonkenlkigfeoaaDoor
