/- Walks: which rules may be, how much they let grow (rule.Right, rule.Grow, and the reference's). Condition: the rules lie in memory. Walks: which rules may be, how much they let grow, by the reference (fretsawref11.Right, Grow). Condition: the rules lie in memory. Walks: the size of an expression, up to 1001 (config.size, and the reference's). Conditions: the tree is an expression's. -/
import Derived.Test.YtkdbdpcdggildaaDoorCfA
import Derived.Test.YtkdbdpcdggildaaDoorAnyC
import Derived.Deep.LoopGhost
import Derived.Deep.WholeRow
import Derived.Deep.CutBlock
import Derived.Test.YtkdbdpcdggildaaDoorReDeep
namespace Go.Proofs.YtkdbdpcdggildaaDoor
open Go.RowKit Go.Deep
/-- a rule's cells -/
def ruC (r : RuleP) : List Value := [.string ⟨r.1.toArray⟩, .string ⟨r.2.toArray⟩]
theorem ruC_len (r : RuleP) : (ruC r).length = 2 := rfl
theorem ru_cells {w : World} {b off : Nat} {l : List RuleP} (h : ∀ (i : Nat) (x : RuleP) (j : Nat), l[i]? = some x → j < 2 → w.cell? ⟨b, off + (i * 2 + j), none⟩ = (ruC x)[j]?) (k : Nat) (hk : k < l.length) :
    w.cell? ⟨b, off + k * 2, none⟩ = some (.string ⟨(frm l k).toArray⟩) ∧ w.cell? ⟨b, off + k * 2 + 1, none⟩ = some (.string ⟨(rto l k).toArray⟩) := by
  have hx : l[k]? = some (l.getD k ([], [])) := by rw [List.getD_eq_getElem?_getD, List.getElem?_eq_getElem hk]; rfl
  exact ⟨h k _ 0 hx (by decide), h k _ 1 hx (by decide)⟩
theorem zero_unitS (w : World) : (zeroValue 66).run Tryd.prog w = .ok (.agg #[]) w := by
  have h : (Tryd.prog.info? 66).map (fun i => (i.zero, i.size)) = some (some (.agg #[]), 0) := by kernel_rfl
  exact (zero_of_info h).1 w
/-- what the first so many look for -/
def frms (l : List RuleP) (k : Nat) : List (List UInt8) := (List.range k).map (frm l)
theorem frms_succ (l : List RuleP) (k : Nat) : frms l (k + 1) = frms l k ++ [frm l k] := by
  unfold frms; rw [List.range_succ, List.map_append]; rfl
theorem frms_mem {l : List RuleP} {k : Nat} {a : List UInt8} : a ∈ frms l k ↔ ∃ j, j < k ∧ frm l j = a := by
  unfold frms
  simp only [List.mem_map, List.mem_range]
theorem frms_length (l : List RuleP) (k : Nat) : (frms l k).length = k := by unfold frms; simp
set_option maxRecDepth 100000 in
set_option maxHeartbeats 4000000 in
theorem rule_Right (v : Value) (l : List RuleP) (w : World) (h : RowOf ruC 2 w v l) :
    Calls Tryd.prog 58 #[v] w fun e w' => e = .returned (.int .i64 (ruleE l)) ∧ Below w.heap.size w w' := by
  obtain ⟨a, cap, rfl, hcap, hmx, hcell⟩ := h.open ruC_len
  obtain ⟨R, hR⟩ : ∃ R, ruleE l = R := ⟨_, rfl⟩
  have H1 : Hid (64 < l.length → R = 2) := Lib.hid fun h => by rw [← hR]; exact ruleE_long h
  have H2 : Hid (¬ 64 < l.length → ∀ i, i < l.length → badR l i → R = 110) := Lib.hid fun h i hi hb => by rw [← hR]; exact ruleE_bad h hi hb
  have H3 : Hid (¬ 64 < l.length → (∀ i, i < l.length → ¬ badR l i) → R = 0) := Lib.hid fun h hb => by rw [← hR]; exact ruleE_ok h hb
  rw [hR]
  obtain ⟨n, hn⟩ : ∃ n, l.length = n := ⟨_, rfl⟩
  have Hlen := Lib.hid (fun (k : Nat) (h : k < n) => (by rw [hn]; exact h : k < l.length))
  rw [hn] at hcap H1 H2 H3 ⊢
  unfold maxLen at hmx
  clear hn hR h
  have hmm := @run_makeMap Tryd.prog
  by_cases h64 : 64 < n
  · have e := H1.out h64
    subst e
    have h64' : (64 : Int) < n := by omega
    go_enter Tryd.func58, Tryd.ntmps58
    repeat' (first | go_values | go_skip | go_guarded | go_step | go_upon)
    go_ret
    exact ⟨rfl, Below.refl _ _⟩
  have h64' : ¬ (64 : Int) < n := by omega
  have Hbad := Lib.hid (H2.out h64)
  have Hok := Lib.hid (H3.out h64)
  clear H1 H2 H3
  have hzu := zero_unitS
  go_enter Tryd.func58, Tryd.ntmps58
  repeat' (first | go_values | go_skip | go_guarded | go_step | go_upon)
  clear hmm
  have HM : Hid (SetS (w.alloc (.map #[] 0)) w.heap.size ([] : List (List UInt8))) := Lib.hid (MapAt.new w)
  have HB : Hid (Below w.heap.size w (w.alloc (.map #[] 0))) := Lib.hid ((Below.refl _ _).alloc (Nat.le_refl _) _)
  obtain ⟨gm, hgm⟩ : ∃ g, g = w.heap.size := ⟨_, rfl⟩
  have hgm' : w.heap.size ≤ gm := by omega
  rw [← hgm] at HM ⊢
  clear hgm
  generalize w.alloc (.map #[] 0) = w1 at HM HB ⊢
  go_loopg [14] n (fun gk s14 wr => ∃ k : Nat, s14 = .int .i64 k ∧ k + gk = n ∧ Hid (∀ i, i < k → ¬ badR l i) ∧ Hid (SetS wr gm (frms l k)) ∧ Hid (Below w.heap.size w wr))
  case atStart => exact ⟨0, rfl, by omega, Lib.hid (fun i hi => by omega), HM, HB⟩
  case round =>
    clear HM HB
    obtain ⟨k, rfl, hk, HG, HM, HB⟩ := hrel
    by_cases hkn : k < n
    · have hkl : k < l.length := Hlen.out k hkn
      rcases hcell with h0 | ⟨b, off, rfl, hbB, hcell⟩
      · omega
      obtain ⟨c0, c1⟩ := ru_cells hcell k hkl
      rw [← HB.out.cell hbB] at c0 c1
      have Hb1 : Hid (frm l k = [] → R = 110) := Lib.hid fun h => Hbad.out k hkn (.inl (by rw [h]; exact Nat.lt_add_one 0))
      have Hb2 : Hid (16 < (frm l k).length → R = 110) := Lib.hid fun h => Hbad.out k hkn (.inr (.inl h))
      have Hb3 : Hid (32 < (rto l k).length → R = 110) := Lib.hid fun h => Hbad.out k hkn (.inr (.inr (.inl h)))
      have Hb4 : Hid (frm l k ∈ frms l k → R = 110) := Lib.hid fun h => Hbad.out k hkn (.inr (.inr (.inr (frms_mem.1 h))))
      have Hg : Hid (frm l k ≠ [] → ¬ 16 < (frm l k).length → ¬ 32 < (rto l k).length → frm l k ∉ frms l k → ∀ i, i < k + 1 → ¬ badR l i) := Lib.hid fun h1 h2 h3 h4 i hi hb => by
        by_cases e : i = k
        · subst e
          rcases hb with h | h | h | h
          · exact h1 (List.length_eq_zero_iff.1 (by omega))
          · exact h2 h
          · exact h3 h
          · exact h4 (frms_mem.2 h)
        · exact HG.out i (by omega) hb
      have Hsn : Hid (frms l (k + 1) = frms l k ++ [frm l k]) := Lib.hid (frms_succ l k)
      clear hcell
      generalize frms l k = ks at HM Hb4 Hg Hsn
      generalize frm l k = f at c0 Hb1 Hb2 Hb4 Hg Hsn
      generalize rto l k = t at c1 Hb3 Hg
      obtain ⟨wx, hwx⟩ : ∃ wx, wx = wr.alloc (.cells #[.string ⟨f.toArray⟩, .string ⟨t.toArray⟩] 48) := ⟨_, rfl⟩
      obtain ⟨wy, hwy⟩ : ∃ wy, wy = wx.alloc (.cells #[] 66) := ⟨_, rfl⟩
      have hbx : Below wr.heap.size wr wx := by rw [hwx]; exact (Below.refl _ _).alloc (Nat.le_refl _) _
      have hby : Below wx.heap.size wx wy := by rw [hwy]; exact (Below.refl _ _).alloc (Nat.le_refl _) _
      have HX := Lib.hid (HM.out.keep hbx)
      have HY := Lib.hid (HX.out.keep hby)
      have hBy : Below w.heap.size w wy := (HB.out.trans (hbx.mono HB.out.size)).trans (hby.mono (Nat.le_trans HB.out.size hbx.size))
      have HBy := Lib.hid hBy
      have hlook := run_lookS (k := 9) Tryd.underlying9 Tryd.underlying65 zero_unitS f HX.out
      rw [hwx] at hlook
      cases hfi : findIn f 0 ks with
      | some j =>
        have e := Hb4.out (by
          by_cases h : f ∈ ks
          · exact h
          · rw [findIn_none.2 h] at hfi; cases hfi)
        subst e
        rw [hfi] at hlook
        dsimp only [Option.map_some, Option.getD_some, Option.isSome_some, nilV] at hlook
        rw [hwy, hwx] at HBy
        clear hfi Hb1 Hb2 Hb3 Hb4 Hg Hsn Hbad Hok HX HY HM HB hbx hby hBy HG hwy hwx
        repeat' (first | go_values | go_skip | go_guarded | go_step | go_upon)
        go_ret
        exact ⟨rfl, HBy.out⟩
      | none =>
        have hnm : f ∉ ks := findIn_none.1 hfi
        have hput := run_putS (k := 9) Tryd.underlying9 Tryd.underlying65 f HY.out hfi
        have HP := Lib.hid (HY.out.put f)
        have HBp := below_block hBy hgm' ⟨_, _, HY.out⟩ (o := .map (entsFrom encS nilV 0 (ks ++ [f])).toArray (ks.length + 1))
        obtain ⟨wp, hwp⟩ : ∃ wp, wp = Go.ChangeMaps.setBlock wy gm (.map (entsFrom encS nilV 0 (ks ++ [f])).toArray (ks.length + 1)) := ⟨_, rfl⟩
        rw [← hwp] at hput HP HBp
        have HBP := Lib.hid HBp
        dsimp only [nilV] at hput
        rw [hfi] at hlook
        dsimp only [Option.map_none, Option.getD_none, Option.isSome_none] at hlook
        rw [hwy, hwx] at hput HBy
        clear hfi Hb4 HX HY HM HB hbx hby hBy HBp HG hwp hwy hwx
        by_cases h1 : f = []
        · have e := Hb1.out h1
          subst e h1
          repeat' (first | go_values | go_skip | go_guarded | go_step | go_upon)
          go_ret
          exact ⟨rfl, HBy.out⟩
        have hb1 : (f == []) = false := beq_false_of_ne h1
        by_cases h2 : 16 < f.length
        · have e := Hb2.out h2
          subst e
          have h2' : (16 : Int) < f.length := by omega
          repeat' (first | go_values | go_skip | go_guarded | go_step | go_upon)
          go_ret
          exact ⟨rfl, HBy.out⟩
        have h2' : ¬ (16 : Int) < f.length := by omega
        by_cases h3 : 32 < t.length
        · have e := Hb3.out h3
          subst e
          have h3' : (32 : Int) < t.length := by omega
          repeat' (first | go_values | go_skip | go_guarded | go_step | go_upon)
          go_ret
          exact ⟨rfl, HBy.out⟩
        have h3' : ¬ (32 : Int) < t.length := by omega
        have HG2 := Lib.hid (Hg.out h1 h2 h3 hnm)
        clear Hg Hb1 Hb2 Hb3 hnm h1 h2 h3
        repeat' (first | go_values | go_skip | go_guarded | go_step | go_upon)
        go_roundg (gk - 1)
        case rel => exact ⟨k + 1, by go_num, by omega, HG2, Lib.hid (by rw [Hsn.out]; exact HP.out), HBP⟩
        case measure => omega
    · obtain rfl : n = k := by omega
      have e := Hok.out HG.out
      subst e
      repeat' (first | go_values | go_skip | go_guarded | go_step | go_upon)
      go_ret
      exact ⟨rfl, HB.out⟩
theorem up_tdiv {f t : Nat} (hf : 1 ≤ f) : ((t : Int) + (f : Int) - 1).tdiv (f : Int) = (upN f t : Nat) := by
  have h : (t : Int) + (f : Int) - 1 = ((t + f - 1 : Nat) : Int) := by omega
  rw [h, Int.tdiv_eq_ediv_of_nonneg (by omega)]
  rfl
set_option maxRecDepth 100000 in
set_option maxHeartbeats 4000000 in
theorem rule_Grow (v : Value) (l : List RuleP) (w : World) (h : RowOf ruC 2 w v l) :
    Calls Tryd.prog 29 #[v] w fun e w' => ∃ n : Int, e = .returned (.tuple #[.int .i64 n, .int .i64 (ruleE l)]) ∧ (ruleE l = 0 → n = growN l) ∧ Below w.heap.size w w' := by
  have HC := Lib.hid (rule_Right v l w h)
  obtain ⟨a, cap, rfl, hcap, hmx, hcell⟩ := h.open ruC_len
  obtain ⟨R, hR⟩ : ∃ R, ruleE l = R := ⟨_, rfl⟩
  have HR : Hid (R = 0 → ruleE l = 0) := Lib.hid fun h => by rw [hR]; exact h
  rw [hR] at HC ⊢
  obtain ⟨n, hn⟩ : ∃ n, l.length = n := ⟨_, rfl⟩
  have Hn := Lib.hid hn
  rw [hn] at hcap HC ⊢
  unfold maxLen at hmx
  clear hn hR h
  go_enter Tryd.func29, Tryd.ntmps29
  repeat' (first | go_values | go_skip | go_guarded | go_step | go_upon)
  refine Calls.mono (HC.out) ?_
  rintro _ w1 ⟨rfl, hb1⟩
  dsimp only
  have HB := Lib.hid hb1
  clear hb1 HC
  by_cases h0 : R = 0
  rotate_left
  · have hne : (R != 0) = true := by rw [bne_iff_ne]; exact h0
    repeat' (first | go_values | go_skip | go_guarded | go_step | go_upon)
    go_ret2
    exact ⟨0, rfl, fun h => absurd h h0, HB.out⟩
  have h00 := HR.out h0
  subst h0
  obtain ⟨hl64, hgood⟩ := ruleE_open h00
  rw [Hn.out] at hl64 hgood
  have Hgood := Lib.hid hgood
  have Hgl := Lib.hid (fun k (hk : k ≤ n) => growTo_le h00 k (by rw [Hn.out]; exact hk))
  clear hgood h00 HR
  repeat' (first | go_values | go_skip | go_guarded | go_step | go_upon)
  go_loopg [5, 15] n (fun gk s5 s15 wr => ∃ (k m : Nat), s15 = .int .i64 k ∧ s5 = .int .i64 m ∧ k + gk = n ∧ Hid (m = growTo l k) ∧ Hid (Below w.heap.size w wr))
  case atStart => exact ⟨0, 1, rfl, rfl, by omega, Lib.hid rfl, HB⟩
  case round =>
    clear HB
    obtain ⟨k, m, rfl, rfl, hk, Hm, HB⟩ := hrel
    by_cases hkn : k < n
    · have hkl : k < l.length := by rw [Hn.out]; exact hkn
      have hm32 := Hgl.out k (by omega)
      rw [← Hm.out] at hm32
      have hbk := Hgood.out k hkn
      unfold badR at hbk
      have hf1 : 1 ≤ (frm l k).length := by
        by_cases h : (frm l k).length < 1
        · exact absurd (.inl h) hbk
        · omega
      have hf2 : (frm l k).length ≤ 16 := by
        by_cases h : 16 < (frm l k).length
        · exact absurd (.inr (.inl h)) hbk
        · omega
      have ht2 : (rto l k).length ≤ 32 := by
        by_cases h : 32 < (rto l k).length
        · exact absurd (.inr (.inr (.inl h))) hbk
        · omega
      have Hs : Hid (growTo l (k + 1) = max m (upN (frm l k).length (rto l k).length)) := Lib.hid (by rw [growTo, Hm.out])
      rcases hcell with h0 | ⟨b, off, rfl, hbB, hcell⟩
      · omega
      obtain ⟨c0, c1⟩ := ru_cells hcell k hkl
      rw [← HB.out.cell hbB] at c0 c1
      clear hcell hbk
      generalize frm l k = f at c0 hf1 hf2 Hs
      generalize rto l k = t at c1 ht2 Hs
      have hq := up_tdiv (t := t.length) hf1
      have hu := upN_le hf1 ht2
      generalize upN f.length t.length = u at hq hu Hs
      have hfz : ((f.length : Int) == 0) = false := beq_false_of_ne (by omega)
      have HBx : Hid (Below w.heap.size w (wr.alloc (.cells #[.string ⟨f.toArray⟩, .string ⟨t.toArray⟩] 48))) := Lib.hid (HB.out.alloc HB.out.size _)
      by_cases hmu : (m : Int) < (u : Int)
      · have e : max m u = u := by omega
        repeat' (first | go_values | go_skip | go_guarded | go_step | go_upon)
        go_roundg (gk - 1)
        case rel => exact ⟨k + 1, u, by go_num, rfl, by omega, Lib.hid (by rw [Hs.out, e]), HBx⟩
        case measure => omega
      · have e : max m u = m := by omega
        repeat' (first | go_values | go_skip | go_guarded | go_step | go_upon)
        go_roundg (gk - 1)
        case rel => exact ⟨k + 1, m, by go_num, rfl, by omega, Lib.hid (by rw [Hs.out, e]), HBx⟩
        case measure => omega
    · obtain rfl : n = k := by omega
      repeat' (first | go_values | go_skip | go_guarded | go_step | go_upon)
      go_ret2
      exact ⟨m, rfl, fun _ => by rw [Hm.out]; unfold growN; rw [Hn.out], HB.out⟩
end Go.Proofs.YtkdbdpcdggildaaDoor
namespace Go.Proofs.YtkdbdpcdggildaaDoor
open Go.RowKit Go.Deep
set_option maxRecDepth 100000 in
set_option maxHeartbeats 4000000 in
theorem ref_RuleRight (v : Value) (l : List RuleP) (w : World) (h : RowOf ruC 2 w v l) :
    Calls Tryd.prog 38 #[v] w fun e w' => e = .returned (.int .i64 (ruleE l)) ∧ Below w.heap.size w w' := by
  obtain ⟨a, cap, rfl, hcap, hmx, hcell⟩ := h.open ruC_len
  obtain ⟨R, hR⟩ : ∃ R, ruleE l = R := ⟨_, rfl⟩
  have H1 : Hid (64 < l.length → R = 2) := Lib.hid fun h => by rw [← hR]; exact ruleE_long h
  have H2 : Hid (¬ 64 < l.length → ∀ i, i < l.length → badR l i → R = 110) := Lib.hid fun h i hi hb => by rw [← hR]; exact ruleE_bad h hi hb
  have H3 : Hid (¬ 64 < l.length → (∀ i, i < l.length → ¬ badR l i) → R = 0) := Lib.hid fun h hb => by rw [← hR]; exact ruleE_ok h hb
  rw [hR]
  obtain ⟨n, hn⟩ : ∃ n, l.length = n := ⟨_, rfl⟩
  have Hlen := Lib.hid (fun (k : Nat) (h : k < n) => (by rw [hn]; exact h : k < l.length))
  rw [hn] at hcap H1 H2 H3 ⊢
  unfold maxLen at hmx
  clear hn hR h
  by_cases h64 : 64 < n
  · have e := H1.out h64
    subst e
    have h64' : (64 : Int) < n := by omega
    go_enter Tryd.func38, Tryd.ntmps38
    repeat' (first | go_values | go_skip | go_guarded | go_step | go_upon)
    go_ret
    exact ⟨rfl, Below.refl _ _⟩
  have h64' : ¬ (64 : Int) < n := by omega
  have Hbad := Lib.hid (H2.out h64)
  have Hok := Lib.hid (H3.out h64)
  clear H1 H2 H3
  go_enter Tryd.func38, Tryd.ntmps38
  repeat' (first | go_values | go_skip | go_guarded | go_step | go_upon)
  go_loopg [11] n (fun gk s11 wr => ∃ k : Nat, s11 = .int .i64 k ∧ k + gk = n ∧ Hid (∀ i, i < k → ¬ badR l i) ∧ Hid (Below w.heap.size w wr))
  case atStart => exact ⟨0, rfl, by omega, Lib.hid (fun i hi => by omega), Lib.hid (Below.refl _ _)⟩
  case round =>
    obtain ⟨k, rfl, hk, HG, HB⟩ := hrel
    by_cases hkn : k < n
    · have hkl : k < l.length := Hlen.out k hkn
      rcases hcell with h0 | ⟨b, off, rfl, hbB, hcell⟩
      · omega
      have Hcell := Lib.hid hcell
      obtain ⟨c0, c1⟩ := ru_cells hcell k hkl
      rw [← HB.out.cell hbB] at c0 c1
      have Hb1 : Hid ((frm l k).length < 1 → R = 110) := Lib.hid fun h => Hbad.out k hkn (.inl h)
      have Hb2 : Hid (16 < (frm l k).length → R = 110) := Lib.hid fun h => Hbad.out k hkn (.inr (.inl h))
      have Hb3 : Hid (32 < (rto l k).length → R = 110) := Lib.hid fun h => Hbad.out k hkn (.inr (.inr (.inl h)))
      have Hb4 : Hid (∀ j, j < k → frm l j = frm l k → R = 110) := Lib.hid fun j hj h => Hbad.out k hkn (.inr (.inr (.inr ⟨j, hj, h⟩)))
      have Hg : Hid (¬ (frm l k).length < 1 → ¬ 16 < (frm l k).length → ¬ 32 < (rto l k).length → (∀ j, j < k → frm l j ≠ frm l k) → ∀ i, i < k + 1 → ¬ badR l i) := Lib.hid fun h1 h2 h3 h4 i hi hb => by
        by_cases e : i = k
        · subst e
          rcases hb with h | h | h | ⟨j, hj, h⟩
          · exact h1 h
          · exact h2 h
          · exact h3 h
          · exact h4 j hj h
        · exact HG.out i (by omega) hb
      have hlj : ∀ j, j < k → j < l.length := fun j hj => by omega
      have Hlj := Lib.hid hlj
      clear hcell hlj hkl
      generalize hfe : frm l k = f at c0 Hb1 Hb2 Hb4 Hg
      clear hfe
      generalize rto l k = t at c1 Hb3 Hg
      have HBx : Hid (Below w.heap.size w (wr.alloc (.cells #[.string ⟨f.toArray⟩, .string ⟨t.toArray⟩] 48))) := Lib.hid (HB.out.alloc HB.out.size _)
      by_cases h1 : f.length < 1
      · have e := Hb1.out h1
        subst e
        have h1' : (f.length : Int) < 1 := by omega
        repeat' (first | go_values | go_skip | go_guarded | go_step | go_upon)
        go_ret
        exact ⟨rfl, HBx.out⟩
      have h1' : ¬ (f.length : Int) < 1 := by omega
      by_cases h2 : 16 < f.length
      · have e := Hb2.out h2
        subst e
        have h2' : (16 : Int) < f.length := by omega
        repeat' (first | go_values | go_skip | go_guarded | go_step | go_upon)
        go_ret
        exact ⟨rfl, HBx.out⟩
      have h2' : ¬ (16 : Int) < f.length := by omega
      by_cases h3 : 32 < t.length
      · have e := Hb3.out h3
        subst e
        have h3' : (32 : Int) < t.length := by omega
        repeat' (first | go_values | go_skip | go_guarded | go_step | go_upon)
        go_ret
        exact ⟨rfl, HBx.out⟩
      have h3' : ¬ (32 : Int) < t.length := by omega
      have Hg2 := Lib.hid (Hg.out h1 h2 h3)
      clear Hg Hb1 Hb2 Hb3 h1 h2 h3 HG
      repeat' (first | go_values | go_skip | go_guarded | go_step | go_upon)
      clear h1' h2' h3' c0 c1
      have HX : Hid ((wr.alloc (.cells #[.string ⟨f.toArray⟩, .string ⟨t.toArray⟩] 48)).heap[wr.heap.size]? = some (.cells #[.string ⟨f.toArray⟩, .string ⟨t.toArray⟩] 48 (0, 0))) := Lib.hid (Go.heap_alloc_new _ _)
      generalize wr.alloc (.cells #[.string ⟨f.toArray⟩, .string ⟨t.toArray⟩] 48) = wx at HX HBx ⊢
      generalize wr.heap.size = gx at HX ⊢
      go_loopg [5] k (fun gj s5 wi => ∃ j : Nat, s5 = .int .i64 j ∧ j + gj = k ∧ Hid (∀ i, i < j → frm l i ≠ f) ∧ Hid (wi.heap[gx]? = some (.cells #[.string ⟨f.toArray⟩, .string ⟨t.toArray⟩] 48 (0, 0))) ∧ Hid (Below w.heap.size w wi))
      case atStart => exact ⟨0, rfl, by omega, Lib.hid (fun i hi => by omega), HX, HBx⟩
      case round =>
        clear HX HBx
        obtain ⟨j, rfl, hj, HN, HX, HBi⟩ := hrel
        by_cases hjk : j < k
        · obtain ⟨d0, _⟩ := ru_cells Hcell.out j (Hlj.out j hjk)
          have hgl : gx < wr.heap.size := (Array.getElem?_eq_some_iff.1 HX.out).1
          have q0 : ∀ nq : WB wr, nq.1.cell? ⟨b, off + j * 2, none⟩ = some (.string ⟨(frm l j).toArray⟩) := fun nq => by rw [nq.2.cell (show b < wr.heap.size from Nat.lt_of_lt_of_le hbB HBi.out.size), HBi.out.cell hbB]; exact d0
          have q1 : ∀ nq : WB wr, nq.1.cell? ⟨gx, 0, none⟩ = some (.string ⟨f.toArray⟩) := fun nq => by rw [nq.2.cell hgl, cell_of_row _ _ 0 _ _ _ HX.out]; rfl
          have hjn : (j : Int) < (n : Int) := by omega
          have hjn' : j < n := by omega
          have Hb5 : Hid (frm l j = f → R = 110) := Lib.hid fun h => Hb4.out j hjk h
          have HN2 : Hid (frm l j ≠ f → ∀ i, i < j + 1 → frm l i ≠ f) := Lib.hid fun h i hi => by
            by_cases e : i = j
            · subst e; exact h
            · exact HN.out i (by omega)
          clear d0 HN
          generalize frm l j = fj at q0 Hb5 HN2
          by_cases he : fj = f
          · have e := Hb5.out he
            subst e he
            repeat' (go_not_at_region 11; first | go_values | go_skip | go_guarded | go_step | go_upon)
            refine wp_region_anyC (by kernel_rfl) wr ?_
            refine wpAnyC_take (i := 0) (v := _) rfl (by kernel_rfl) (by kernel_rfl) (by kernel_rfl) (fun _ _ _ h => h) (Or.inl ⟨by rfl, fun w ⟨nq, hw⟩ => by (subst hw; go_simp <;> with_reducible rfl)⟩) (by go_simp <;> with_reducible rfl) ?_
            refine wpAnyC_take (i := 1) (v := _) rfl (by kernel_rfl) (by kernel_rfl) (by kernel_rfl) (fun _ _ _ h => h) (Or.inl ⟨by rfl, fun w ⟨nq, hw⟩ => by (subst hw; go_simp <;> with_reducible rfl)⟩) (by go_simp <;> with_reducible rfl) ?_
            refine wpAnyC_take (i := 2) (v := _) rfl (by kernel_rfl) (by kernel_rfl) (by kernel_rfl) (fun _ _ _ h => h) (Or.inl ⟨by rfl, fun w ⟨nq, hw⟩ => by (subst hw; go_simp <;> with_reducible rfl)⟩) (by go_simp <;> with_reducible rfl) ?_
            refine wpAnyC_take (i := 3) (v := _) rfl (by kernel_rfl) (by kernel_rfl) (by kernel_rfl) (fun _ _ _ h => h) (Or.inl ⟨by rfl, fun w ⟨nq, hw⟩ => by (subst hw; go_simp <;> with_reducible rfl)⟩) (by go_simp <;> with_reducible rfl) ?_
            refine wpAnyC_take (i := 4) (v := _) rfl (by kernel_rfl) (by kernel_rfl) (by kernel_rfl) (fun _ _ _ h => h) (Or.inl ⟨by rfl, fun w ⟨nq, hw⟩ => by (subst hw; go_simp <;> with_reducible rfl)⟩) (by go_simp <;> with_reducible rfl) ?_
            refine wpAnyC_take (i := 5) (v := _) rfl (by kernel_rfl) (by kernel_rfl) (by kernel_rfl) (fun _ _ _ h => h) (Or.inl ⟨by rfl, fun w ⟨nq, hw⟩ => by (subst hw; go_simp <;> with_reducible rfl)⟩) (by go_simp <;> with_reducible rfl) ?_
            refine wpAnyC_take (i := 6) (v := _) rfl (by kernel_rfl) (by kernel_rfl) (by kernel_rfl) (fun _ _ _ h => h) (Or.inl ⟨by rfl, fun w ⟨nq, hw⟩ => by (subst hw; go_simp <;> with_reducible rfl)⟩) (by go_simp <;> with_reducible rfl) ?_
            refine wpAnyC_take (i := 7) (v := _) rfl (by kernel_rfl) (by kernel_rfl) (by kernel_rfl) (fun _ _ _ h => h) (Or.inl ⟨by rfl, fun w ⟨nq, hw⟩ => by (subst hw; go_simp <;> with_reducible rfl)⟩) (by go_simp <;> with_reducible rfl) ?_
            refine wpAnyC_done (by kernel_rfl) (CW.of ((Below.refl _ _).drew)) (by go_simp <;> with_reducible rfl) ?_
            clear q0 q1
            repeat' (first | go_values | go_skip | go_guarded | go_step | go_upon)
            go_ret
            exact ⟨rfl, HBi.out.trans ((Below.refl _ _).drew)⟩
          · have heb : (fj == f) = false := beq_false_of_ne he
            have HN3 := Lib.hid (HN2.out he)
            clear HN2 Hb5
            repeat' (go_not_at_region 11; first | go_values | go_skip | go_guarded | go_step | go_upon)
            refine wp_region_anyC (by kernel_rfl) wr ?_
            refine wpAnyC_take (i := 0) (v := _) rfl (by kernel_rfl) (by kernel_rfl) (by kernel_rfl) (fun _ _ _ h => h) (Or.inl ⟨by rfl, fun w ⟨nq, hw⟩ => by (subst hw; go_simp <;> with_reducible rfl)⟩) (by go_simp <;> with_reducible rfl) ?_
            refine wpAnyC_take (i := 1) (v := _) rfl (by kernel_rfl) (by kernel_rfl) (by kernel_rfl) (fun _ _ _ h => h) (Or.inl ⟨by rfl, fun w ⟨nq, hw⟩ => by (subst hw; go_simp <;> with_reducible rfl)⟩) (by go_simp <;> with_reducible rfl) ?_
            refine wpAnyC_take (i := 2) (v := _) rfl (by kernel_rfl) (by kernel_rfl) (by kernel_rfl) (fun _ _ _ h => h) (Or.inl ⟨by rfl, fun w ⟨nq, hw⟩ => by (subst hw; go_simp <;> with_reducible rfl)⟩) (by go_simp <;> with_reducible rfl) ?_
            refine wpAnyC_take (i := 3) (v := _) rfl (by kernel_rfl) (by kernel_rfl) (by kernel_rfl) (fun _ _ _ h => h) (Or.inl ⟨by rfl, fun w ⟨nq, hw⟩ => by (subst hw; go_simp <;> with_reducible rfl)⟩) (by go_simp <;> with_reducible rfl) ?_
            refine wpAnyC_take (i := 4) (v := _) rfl (by kernel_rfl) (by kernel_rfl) (by kernel_rfl) (fun _ _ _ h => h) (Or.inl ⟨by rfl, fun w ⟨nq, hw⟩ => by (subst hw; go_simp <;> with_reducible rfl)⟩) (by go_simp <;> with_reducible rfl) ?_
            refine wpAnyC_take (i := 5) (v := _) rfl (by kernel_rfl) (by kernel_rfl) (by kernel_rfl) (fun _ _ _ h => h) (Or.inl ⟨by rfl, fun w ⟨nq, hw⟩ => by (subst hw; go_simp <;> with_reducible rfl)⟩) (by go_simp <;> with_reducible rfl) ?_
            refine wpAnyC_take (i := 6) (v := _) rfl (by kernel_rfl) (by kernel_rfl) (by kernel_rfl) (fun _ _ _ h => h) (Or.inl ⟨by rfl, fun w ⟨nq, hw⟩ => by (subst hw; go_simp <;> with_reducible rfl)⟩) (by go_simp <;> with_reducible rfl) ?_
            refine wpAnyC_take (i := 7) (v := _) rfl (by kernel_rfl) (by kernel_rfl) (by kernel_rfl) (fun _ _ _ h => h) (Or.inl ⟨by rfl, fun w ⟨nq, hw⟩ => by (subst hw; go_simp <;> with_reducible rfl)⟩) (by go_simp <;> with_reducible rfl) ?_
            refine wpAnyC_done (by kernel_rfl) (CW.of ((Below.refl _ _).drew)) (by go_simp <;> with_reducible rfl) ?_
            clear q0 q1
            repeat' (first | go_values | go_skip | go_guarded | go_step | go_upon)
            go_roundg (gk - 1)
            case rel => exact ⟨j + 1, by go_num, by omega, HN3, HX, Lib.hid (HBi.out.trans ((Below.refl _ _).drew))⟩
            case measure => omega
        · obtain rfl : j = k := by omega
          have HG3 := Lib.hid (Hg2.out HN.out)
          clear HN HX Hg2
          repeat' (first | go_values | go_skip | go_guarded | go_step | go_upon)
          go_roundg (n - (j + 1))
          case rel => exact ⟨j + 1, by go_num, by omega, HG3, HBi⟩
          case measure => omega
    · obtain rfl : n = k := by omega
      have e := Hok.out HG.out
      subst e
      repeat' (first | go_values | go_skip | go_guarded | go_step | go_upon)
      go_ret
      exact ⟨rfl, HB.out⟩
set_option maxRecDepth 100000 in
set_option maxHeartbeats 4000000 in
theorem ref_Grow (v : Value) (l : List RuleP) (w : World) (h : RowOf ruC 2 w v l) (h00 : ruleE l = 0) :
    Calls Tryd.prog 39 #[v] w fun e w' => e = .returned (.int .i64 (growN l : Nat)) ∧ Below w.heap.size w w' := by
  obtain ⟨a, cap, rfl, hcap, hmx, hcell⟩ := h.open ruC_len
  obtain ⟨n, hn⟩ : ∃ n, l.length = n := ⟨_, rfl⟩
  have Hn := Lib.hid hn
  rw [hn] at hcap ⊢
  unfold maxLen at hmx
  clear hn h
  obtain ⟨hl64, hgood⟩ := ruleE_open h00
  rw [Hn.out] at hl64 hgood
  have Hgood := Lib.hid hgood
  have Hgl := Lib.hid (fun k (hk : k ≤ n) => growTo_le h00 k (by rw [Hn.out]; exact hk))
  clear hgood h00
  go_enter Tryd.func39, Tryd.ntmps39
  repeat' (first | go_values | go_skip | go_guarded | go_step | go_upon)
  go_loopg [3, 9] n (fun gk s3 s9 wr => ∃ (k m : Nat), s9 = .int .i64 k ∧ s3 = .int .i64 m ∧ k + gk = n ∧ Hid (m = growTo l k) ∧ Hid (Below w.heap.size w wr))
  case atStart => exact ⟨0, 1, rfl, rfl, by omega, Lib.hid rfl, Lib.hid (Below.refl _ _)⟩
  case round =>
    obtain ⟨k, m, rfl, rfl, hk, Hm, HB⟩ := hrel
    by_cases hkn : k < n
    · have hkl : k < l.length := by rw [Hn.out]; exact hkn
      have hm32 := Hgl.out k (by omega)
      rw [← Hm.out] at hm32
      have hbk := Hgood.out k hkn
      unfold badR at hbk
      have hf1 : 1 ≤ (frm l k).length := by
        by_cases h : (frm l k).length < 1
        · exact absurd (.inl h) hbk
        · omega
      have hf2 : (frm l k).length ≤ 16 := by
        by_cases h : 16 < (frm l k).length
        · exact absurd (.inr (.inl h)) hbk
        · omega
      have ht2 : (rto l k).length ≤ 32 := by
        by_cases h : 32 < (rto l k).length
        · exact absurd (.inr (.inr (.inl h))) hbk
        · omega
      have Hs : Hid (growTo l (k + 1) = max m (upN (frm l k).length (rto l k).length)) := Lib.hid (by rw [growTo, Hm.out])
      rcases hcell with h0 | ⟨b, off, rfl, hbB, hcell⟩
      · omega
      obtain ⟨c0, c1⟩ := ru_cells hcell k hkl
      rw [← HB.out.cell hbB] at c0 c1
      clear hcell hbk
      generalize frm l k = f at c0 hf1 hf2 Hs
      generalize rto l k = t at c1 ht2 Hs
      have hu := upN_le hf1 ht2
      have Hup := Lib.hid (fun q => upN_iff (n := q) (t := t.length) hf1)
      generalize upN f.length t.length = u at hu Hs Hup
      have HBx : Hid (Below w.heap.size w (wr.alloc (.cells #[.string ⟨f.toArray⟩, .string ⟨t.toArray⟩] 48))) := Lib.hid (HB.out.alloc HB.out.size _)
      repeat' (first | go_values | go_skip | go_guarded | go_step | go_upon)
      clear c0 c1
      have HX : Hid ((wr.alloc (.cells #[.string ⟨f.toArray⟩, .string ⟨t.toArray⟩] 48)).heap[wr.heap.size]? = some (.cells #[.string ⟨f.toArray⟩, .string ⟨t.toArray⟩] 48 (0, 0))) := Lib.hid (Go.heap_alloc_new _ _)
      generalize wr.alloc (.cells #[.string ⟨f.toArray⟩, .string ⟨t.toArray⟩] 48) = wx at HX HBx ⊢
      generalize wr.heap.size = gx at HX ⊢
      go_loopg [6] u (fun gj s6 wi => ∃ q : Nat, s6 = .int .i64 q ∧ q + gj = u ∧ Hid (wi.heap[gx]? = some (.cells #[.string ⟨f.toArray⟩, .string ⟨t.toArray⟩] 48 (0, 0))) ∧ Hid (Below w.heap.size w wi))
      case atStart => exact ⟨0, rfl, by omega, HX, HBx⟩
      case round =>
        clear HX HBx
        obtain ⟨q, rfl, hq, HX, HB⟩ := hrel
        have c0 : wr.cell? ⟨gx, 0, none⟩ = some (.string ⟨f.toArray⟩) := by rw [cell_of_row _ _ 0 _ _ _ HX.out]; rfl
        have c1 : wr.cell? ⟨gx, 1, none⟩ = some (.string ⟨t.toArray⟩) := by rw [cell_of_row _ _ 1 _ _ _ HX.out]; rfl
        have hpl : q * f.length ≤ 32 * 16 := Nat.mul_le_mul (by omega) hf2
        obtain ⟨p, hp⟩ : ∃ p : Nat, p = q * f.length := ⟨_, rfl⟩
        have hw : IntKind.i64.wrap ((q : Int) * (f.length : Int)) = (p : Int) := by
          rw [hp, Int.natCast_mul]
          refine wi64 ?_
          rw [← Int.natCast_mul]
          unfold I64; omega
        have hiff := Hup.out q
        rw [← hp] at hiff
        clear hp
        by_cases hqu : q < u
        · have hlt := hiff.2 hqu
          have hlt' : (p : Int) < (t.length : Int) := by omega
          clear hiff hpl
          repeat' (first | go_values | go_skip | go_guarded | go_step | go_upon)
          go_roundg (gk - 1)
          case rel => exact ⟨q + 1, by go_num, by omega, HX, HB⟩
          case measure => omega
        · have hlt : ¬ p < t.length := fun h => hqu (hiff.1 h)
          have hlt' : ¬ (p : Int) < (t.length : Int) := by omega
          obtain rfl : q = u := by omega
          clear hiff hpl
          by_cases hmu : (m : Int) < (q : Int)
          · have e : max m q = q := by omega
            repeat' (first | go_values | go_skip | go_guarded | go_step | go_upon)
            go_roundg (n - (k + 1))
            case rel => exact ⟨k + 1, q, by go_num, rfl, by omega, Lib.hid (by rw [Hs.out, e]), HB⟩
            case measure => omega
          · have e : max m q = m := by omega
            repeat' (first | go_values | go_skip | go_guarded | go_step | go_upon)
            go_roundg (n - (k + 1))
            case rel => exact ⟨k + 1, m, by go_num, rfl, by omega, Lib.hid (by rw [Hs.out, e]), HB⟩
            case measure => omega
    · obtain rfl : n = k := by omega
      have e : m = growN l := by rw [Hm.out]; unfold growN; rw [Hn.out]
      clear Hm
      subst e
      repeat' (first | go_values | go_skip | go_guarded | go_step | go_upon)
      go_ret
      exact ⟨rfl, HB.out⟩
end Go.Proofs.YtkdbdpcdggildaaDoor
namespace Go.Proofs.YtkdbdpcdggildaaDoor
open Go.RowKit Go.Lib
theorem gen_worldS {P : Program} {c : Code} {Q : Exit → Act → World → Prop} {a : Act} {w : World} (F : World → Prop) (hF : F w) (h : ∀ w', F w' → c.wp P Q a w') : c.wp P Q a w := h w hF
theorem shp_kids {h : Nat} {t : Re} (hs : shp (h + 1) t = true) : okP t ∧ ∀ u ∈ t.kids, shp h u = true := by
  rw [shp] at hs
  simp only [Bool.and_eq_true, List.all_eq_true] at hs
  exact ⟨okN_iff.1 hs.1, hs.2⟩
/-- the numbers of a node -/
theorem times_node {w : World} {h : Nat} {r : RN} {t : Re} (hr : ReAt w (h + 1) r t) : timesOf t = if r.k = 4 then max 1 (max r.mn r.mx) else 1 := by
  obtain ⟨k, s, a, b, l⟩ := t
  obtain ⟨⟨h1, _, h2, h3⟩, _⟩ := hr
  unfold timesOf
  dsimp only
  rw [h1, h2, h3]
section
variable {h : Nat} (IH : ∀ (r : RN) (t : Re) (w : World), shp h t = true → ReAt w h r t → Calls Tryd.prog 30 #[reV r, .int .i64 1001] w fun e w' => e = .returned (.int .i64 (szR h t)) ∧ Below w.heap.size w w')
include IH
set_option maxRecDepth 100000 in
set_option maxHeartbeats 4000000 in
theorem csize_next (r : RN) (t : Re) (w : World) (hs : shp (h + 1) t = true) (hr : ReAt w (h + 1) r t) :
    Calls Tryd.prog 30 #[reV r, .int .i64 1001] w fun e w' => e = .returned (.int .i64 (szR (h + 1) t)) ∧ Below w.heap.size w w' := by
  have HB : Hid (Below w.heap.size w (w.alloc (.cells (reC r).toArray 28))) := Lib.hid ((Below.refl _ _).alloc (Nat.le_refl _) _)
  have HX : Hid ((w.alloc (.cells (reC r).toArray 28)).heap[w.heap.size]? = some (.cells (reC r).toArray 28 (0, 0))) := Lib.hid (Go.heap_alloc_new _ _)
  obtain ⟨hokp, hkids⟩ := shp_kids hs
  have htm := times_node hr
  have ht1 := times_pos t
  have ht2 := times_le hokp
  obtain ⟨c, hc0⟩ : ∃ c, timesOf t = c := ⟨_, rfl⟩
  obtain ⟨rs, hrow, hlen, hk⟩ := hr.kids
  have hl := hrow.lenOk
  obtain ⟨a, cap, hv, _, _, hc⟩ := hrow.open reC_length
  obtain ⟨rk, rset, rmn, rmx, rv⟩ := r
  simp only at hv htm
  subst hv
  obtain ⟨N, hN⟩ : ∃ N : Int, szR (h + 1) t = N := ⟨_, rfl⟩
  rw [hN]
  have HL := Lib.hid hlen
  have Hall : Hid (∀ k, t.kids.length ≤ k → N = min (szTo h t k) 1001) := Lib.hid fun k hk => by rw [← hN]; exact szTo_all hk
  have Hover : Hid (∀ k, 1001 < szTo h t k → N = 1001) := Lib.hid fun k hk => by rw [← hN]; exact szTo_over hk
  have Hkids := Lib.hid hkids
  have Hnn := Lib.hid fun u => szR_nn h u
  have Hsucc : Hid (∀ k u, t.kids[k]? = some u → szTo h t (k + 1) = szTo h t k + szR h u * c) := Lib.hid fun k u hu => by rw [← hc0]; exact szTo_succ hu
  rw [hc0] at htm ht1 ht2
  clear hN hlen hr hs hokp hc0 hkids
  have htc : (rk = 4 ∧ c = max 1 (max rmn rmx)) ∨ (rk ≠ 4 ∧ c = 1) := by
    by_cases e : rk = 4
    · rw [if_pos e] at htm; exact .inl ⟨e, htm⟩
    · rw [if_neg e] at htm; exact .inr ⟨e, htm⟩
  clear htm
  have Htc := Lib.hid htc
  clear htc
  obtain ⟨C, hC⟩ : ∃ C : Array Value, (reC ⟨rk, rset, rmn, rmx, .slice a rs.length cap⟩).toArray = C := ⟨_, rfl⟩
  have HC3 : Hid (C[0]? = some (.int .i64 rk) ∧ C[5]? = some (.int .i64 rmn) ∧ C[6]? = some (.int .i64 rmx)) := Lib.hid (by rw [← hC]; exact ⟨rfl, rfl, rfl⟩)
  obtain ⟨gt, hgt⟩ : ∃ g, g = w.heap.size := ⟨_, rfl⟩
  rw [hC, ← hgt] at HX
  rw [hC] at HB
  simp only [reC] at hC
  have HCe := Lib.hid hC
  clear hC
  simp only [reV, reC]
  go_enter Tryd.func30, Tryd.ntmps30
  repeat' (first | go_values | go_skip | go_guarded | go_step | go_upon)
  rw [← hgt]
  refine gen_worldS (fun W => W.heap[gt]? = some (.cells C 28 (0, 0)) ∧ Below w.heap.size w W) ⟨by rw [HCe.out]; exact HX.out, by rw [HCe.out]; exact HB.out⟩ ?_
  clear HX HB
  rintro w1 ⟨hx, hb⟩
  have HX := Lib.hid hx
  have HB := Lib.hid hb
  clear hx hb hgt
  go_loopg [5, 12] rs.length (fun gk s5 s12 w' => ∃ (k : Nat) (n : Int), s12 = .int .i64 k ∧ k + gk = rs.length ∧ s5 = .int .i64 n ∧ 2 ≤ n ∧ n ≤ 1001 ∧ Hid (n = szTo h t k) ∧ Hid (w'.heap[gt]? = some (.cells C 28 (0, 0))) ∧ Hid (Below w.heap.size w w'))
  case atStart => exact ⟨0, 2, rfl, by omega, rfl, by omega, by omega, Lib.hid szTo_zero.symm, HX, HB⟩
  case round =>
    clear HX HB
    obtain ⟨k, n, rfl, hkl, rfl, hn1, hn2, HC, HX, HW⟩ := hrel
    by_cases hlt : k < rs.length
    · have hlt' : (k : Int) < rs.length := by omega
      rcases hc with hc | ⟨b, off, rfl, hb, hc⟩
      · omega
      obtain ⟨r', hr'⟩ : ∃ r', rs[k]? = some r' := ⟨_, List.getElem?_eq_getElem hlt⟩
      obtain ⟨t', ht', hrt⟩ := hk k r' hr'
      obtain ⟨c0, c1, c2, c3, c4, c5, c6, c7⟩ := (row_load hc hr').keep HW.out hb
      have HBr : Hid (Below wr.heap.size wr (wr.alloc (.cells (reC r').toArray 28))) := Lib.hid ((Below.refl _ _).alloc (Nat.le_refl _) _)
      have hcall := IH r' t' _ (Hkids.out t' (List.mem_of_getElem? ht')) (hrt.keep (HW.out.trans (HBr.out.mono HW.out.size)))
      have Hs := Lib.hid (Hsucc.out k t' ht')
      have hx1 := Hnn.out t'
      generalize szR h t' = x at hcall Hs hx1
      obtain ⟨y, hy⟩ : ∃ y, y = x * c := ⟨_, rfl⟩
      have hy0 : 0 ≤ y := by rw [hy]; exact Int.mul_nonneg hx1.1 (by omega)
      have hy1 : y ≤ 1001 * 20 := by rw [hy]; exact Int.mul_le_mul hx1.2 ht2 (by omega) (by omega)
      have hwm : IntKind.i64.wrap (x * c) = y := by rw [← hy]; exact wi64 (by unfold I64; omega)
      have hwa : IntKind.i64.wrap (n + y) = n + y := wi64 (by unfold I64; omega)
      have hsum : Hid (szTo h t (k + 1) = n + y) := Lib.hid (by rw [Hs.out, hy, HC.out])
      have hone := hrt.one
      have Hy := Lib.hid hy
      have hxw : IntKind.i64.wrap x = x := wi64 (by unfold I64; omega)
      clear IH hk hc ht' hy Hs hx1
      have hgb := (HBr.out.block gt (Array.getElem?_eq_some_iff.1 HX.out).1).trans HX.out
      have e0 := (cell_of_row _ _ 0 _ _ _ hgb).trans HC3.out.1
      have e5 := (cell_of_row _ _ 5 _ _ _ hgb).trans HC3.out.2.1
      have e6 := (cell_of_row _ _ 6 _ _ _ hgb).trans HC3.out.2.2
      have HX2 : Hid (∀ W, Below wr.heap.size wr W → W.heap[gt]? = some (.cells C 28 (0, 0))) := Lib.hid fun W hW => (hW.block gt (Array.getElem?_eq_some_iff.1 HX.out).1).trans HX.out
      clear HX hgb
      simp only [reV, reC] at hcall HBr e0 e5 e6
      rcases Htc.out with ⟨h4, hcm⟩ | ⟨h4, hcm⟩
      · have b4 : (rk == 4) = true := by rw [h4]; rfl
        have Hcm := Lib.hid hcm
        have H4 := Lib.hid h4
        clear hcm h4
        repeat' (first | (refine store_re (r := r') hone _ _ rfl rfl rfl rfl ?_; simp only [reC]) | go_values | go_skip | go_guarded | go_step | go_upon)
        have hmx : (if (if 1 < rmn then rmn else 1) < rmx then rmx else if 1 < rmn then rmn else 1) = c := by
          rw [Hcm.out]
          split <;> (try split at *) <;> omega
        simp only [hmx]
        clear hmx
        refine Calls.mono (hcall) ?_
        rintro _ w2 ⟨rfl, hb2⟩
        dsimp only
        clear hcall
        have HB2 : Hid (Below w.heap.size w w2) := Lib.hid (HW.out.trans ((HBr.out.trans (hb2.mono HBr.out.size)).mono HW.out.size))
        have HX3 := Lib.hid (HX2.out w2 (HBr.out.trans (hb2.mono HBr.out.size)))
        clear hb2 HBr HW HX2 e0 e5 e6
        by_cases hov : 1001 < n + y
        · have e := Hover.out (k + 1) (by rw [hsum.out]; exact hov)
          subst e
          repeat' (first | go_values | go_skip | go_guarded | go_step | go_upon)
          go_ret
          exact ⟨rfl, HB2.out⟩
        · have hov' : n + y ≤ 1001 := by omega
          repeat' (first | go_values | go_skip | go_guarded | go_step | go_upon)
          go_roundg (gk - 1)
          case rel => exact ⟨k + 1, n + y, by go_num, by omega, rfl, by omega, by omega, Lib.hid hsum.out.symm, HX3, HB2⟩
          case measure => omega
      · have b4 : (rk == 4) = false := beq_false_of_ne h4
        have hyx : y = x := by rw [Hy.out, hcm, Int.mul_one]
        subst hyx
        clear h4 Hy hwm
        repeat' (first | (refine store_re (r := r') hone _ _ rfl rfl rfl rfl ?_; simp only [reC]) | go_values | go_skip | go_guarded | go_step | go_upon)
        refine Calls.mono (hcall) ?_
        rintro _ w2 ⟨rfl, hb2⟩
        dsimp only
        clear hcall
        have HB2 : Hid (Below w.heap.size w w2) := Lib.hid (HW.out.trans ((HBr.out.trans (hb2.mono HBr.out.size)).mono HW.out.size))
        have HX3 := Lib.hid (HX2.out w2 (HBr.out.trans (hb2.mono HBr.out.size)))
        clear hb2 HBr HW HX2 e0 e5 e6
        by_cases hov : 1001 < n + y
        · have e := Hover.out (k + 1) (by rw [hsum.out]; exact hov)
          subst e
          repeat' (first | go_values | go_skip | go_guarded | go_step | go_upon)
          go_ret
          exact ⟨rfl, HB2.out⟩
        · have hov' : n + y ≤ 1001 := by omega
          repeat' (first | go_values | go_skip | go_guarded | go_step | go_upon)
          go_roundg (gk - 1)
          case rel => exact ⟨k + 1, n + y, by go_num, by omega, rfl, by omega, by omega, Lib.hid hsum.out.symm, HX3, HB2⟩
          case measure => omega
    · have hlt' : ¬ (k : Int) < rs.length := by omega
      have e : N = n := by
        have := Hall.out k (by have := HL.out; omega)
        rw [← HC.out] at this
        omega
      subst e
      clear IH hk hc
      repeat' (first | go_values | go_skip | go_guarded | go_step | go_upon)
      go_ret
      exact ⟨rfl, HW.out⟩
end
/-- the size, up to 1001 -/
theorem config_size : ∀ (h : Nat) (r : RN) (t : Re) (w : World), shp h t = true → ReAt w h r t → Calls Tryd.prog 30 #[reV r, .int .i64 1001] w fun e w' => e = .returned (.int .i64 (szR h t)) ∧ Below w.heap.size w w'
  | 0, _, _, _, _, hr => hr.elim
  | _ + 1, r, t, w, hs, hr => csize_next (config_size _) r t w hs hr
section
variable {h : Nat} (IH : ∀ (r : RN) (t : Re) (w : World), shp h t = true → ReAt w h r t → Calls Tryd.prog 40 #[reV r, .int .i64 1001] w fun e w' => e = .returned (.int .i64 (szR h t)) ∧ Below w.heap.size w w')
include IH
set_option maxRecDepth 100000 in
set_option maxHeartbeats 4000000 in
theorem rsize_next (r : RN) (t : Re) (w : World) (hs : shp (h + 1) t = true) (hr : ReAt w (h + 1) r t) :
    Calls Tryd.prog 40 #[reV r, .int .i64 1001] w fun e w' => e = .returned (.int .i64 (szR (h + 1) t)) ∧ Below w.heap.size w w' := by
  have HB : Hid (Below w.heap.size w (w.alloc (.cells (reC r).toArray 28))) := Lib.hid ((Below.refl _ _).alloc (Nat.le_refl _) _)
  have HX : Hid ((w.alloc (.cells (reC r).toArray 28)).heap[w.heap.size]? = some (.cells (reC r).toArray 28 (0, 0))) := Lib.hid (Go.heap_alloc_new _ _)
  obtain ⟨hokp, hkids⟩ := shp_kids hs
  have htm := times_node hr
  have ht1 := times_pos t
  have ht2 := times_le hokp
  obtain ⟨c, hc0⟩ : ∃ c, timesOf t = c := ⟨_, rfl⟩
  obtain ⟨rs, hrow, hlen, hk⟩ := hr.kids
  have hl := hrow.lenOk
  obtain ⟨a, cap, hv, _, _, hc⟩ := hrow.open reC_length
  obtain ⟨rk, rset, rmn, rmx, rv⟩ := r
  simp only at hv htm
  subst hv
  obtain ⟨N, hN⟩ : ∃ N : Int, szR (h + 1) t = N := ⟨_, rfl⟩
  rw [hN]
  have HL := Lib.hid hlen
  have Hall : Hid (∀ k, t.kids.length ≤ k → N = min (szTo h t k) 1001) := Lib.hid fun k hk => by rw [← hN]; exact szTo_all hk
  have Hover : Hid (∀ k, 1001 < szTo h t k → N = 1001) := Lib.hid fun k hk => by rw [← hN]; exact szTo_over hk
  have Hkids := Lib.hid hkids
  have Hnn := Lib.hid fun u => szR_nn h u
  have Hsucc : Hid (∀ k u, t.kids[k]? = some u → szTo h t (k + 1) = szTo h t k + szR h u * c) := Lib.hid fun k u hu => by rw [← hc0]; exact szTo_succ hu
  rw [hc0] at htm ht1 ht2
  clear hN hlen hr hs hokp hc0 hkids
  have htc : (rk = 4 ∧ c = max 1 (max rmn rmx)) ∨ (rk ≠ 4 ∧ c = 1) := by
    by_cases e : rk = 4
    · rw [if_pos e] at htm; exact .inl ⟨e, htm⟩
    · rw [if_neg e] at htm; exact .inr ⟨e, htm⟩
  clear htm
  have Htc := Lib.hid htc
  clear htc
  obtain ⟨C, hC⟩ : ∃ C : Array Value, (reC ⟨rk, rset, rmn, rmx, .slice a rs.length cap⟩).toArray = C := ⟨_, rfl⟩
  have HC3 : Hid (C[0]? = some (.int .i64 rk) ∧ C[5]? = some (.int .i64 rmn) ∧ C[6]? = some (.int .i64 rmx)) := Lib.hid (by rw [← hC]; exact ⟨rfl, rfl, rfl⟩)
  obtain ⟨gt, hgt⟩ : ∃ g, g = w.heap.size := ⟨_, rfl⟩
  rw [hC, ← hgt] at HX
  rw [hC] at HB
  simp only [reC] at hC
  have HCe := Lib.hid hC
  clear hC
  simp only [reV, reC]
  go_enter Tryd.func40, Tryd.ntmps40
  repeat' (first | go_values | go_skip | go_guarded | go_step | go_upon)
  rw [← hgt]
  refine gen_worldS (fun W => W.heap[gt]? = some (.cells C 28 (0, 0)) ∧ Below w.heap.size w W) ⟨by rw [HCe.out]; exact HX.out, by rw [HCe.out]; exact HB.out⟩ ?_
  clear HX HB
  rintro w1 ⟨hx, hb⟩
  have HX := Lib.hid hx
  have HB := Lib.hid hb
  clear hx hb hgt
  go_loopg [5, 13] rs.length (fun gk s5 s13 w' => ∃ (k : Nat) (n : Int), s13 = .int .i64 k ∧ k + gk = rs.length ∧ s5 = .int .i64 n ∧ 2 ≤ n ∧ n ≤ 1001 ∧ Hid (n = szTo h t k) ∧ Hid (w'.heap[gt]? = some (.cells C 28 (0, 0))) ∧ Hid (Below w.heap.size w w'))
  case atStart => exact ⟨0, 2, rfl, by omega, rfl, by omega, by omega, Lib.hid szTo_zero.symm, HX, HB⟩
  case round =>
    clear HX HB
    obtain ⟨k, n, rfl, hkl, rfl, hn1, hn2, HC, HX, HW⟩ := hrel
    by_cases hlt : k < rs.length
    · have hlt' : (k : Int) < rs.length := by omega
      rcases hc with hc | ⟨b, off, rfl, hb, hc⟩
      · omega
      obtain ⟨r', hr'⟩ : ∃ r', rs[k]? = some r' := ⟨_, List.getElem?_eq_getElem hlt⟩
      obtain ⟨t', ht', hrt⟩ := hk k r' hr'
      obtain ⟨c0, c1, c2, c3, c4, c5, c6, c7⟩ := (row_load hc hr').keep HW.out hb
      have HBr : Hid (Below wr.heap.size wr (wr.alloc (.cells (reC r').toArray 28))) := Lib.hid ((Below.refl _ _).alloc (Nat.le_refl _) _)
      have hcall := IH r' t' _ (Hkids.out t' (List.mem_of_getElem? ht')) (hrt.keep (HW.out.trans (HBr.out.mono HW.out.size)))
      have Hs := Lib.hid (Hsucc.out k t' ht')
      have hx1 := Hnn.out t'
      generalize szR h t' = x at hcall Hs hx1
      obtain ⟨y, hy⟩ : ∃ y, y = x * c := ⟨_, rfl⟩
      have hy0 : 0 ≤ y := by rw [hy]; exact Int.mul_nonneg hx1.1 (by omega)
      have hy1 : y ≤ 1001 * 20 := by rw [hy]; exact Int.mul_le_mul hx1.2 ht2 (by omega) (by omega)
      have hwm : IntKind.i64.wrap (x * c) = y := by rw [← hy]; exact wi64 (by unfold I64; omega)
      have hwa : IntKind.i64.wrap (n + y) = n + y := wi64 (by unfold I64; omega)
      have hsum : Hid (szTo h t (k + 1) = n + y) := Lib.hid (by rw [Hs.out, hy, HC.out])
      have hone := hrt.one
      have Hy := Lib.hid hy
      have hxw : IntKind.i64.wrap x = x := wi64 (by unfold I64; omega)
      clear IH hk hc ht' hy Hs hx1
      have HX2 : Hid (∀ W, Below wr.heap.size wr W → W.heap[gt]? = some (.cells C 28 (0, 0))) := Lib.hid fun W hW => (hW.block gt (Array.getElem?_eq_some_iff.1 HX.out).1).trans HX.out
      clear HX
      simp only [reV, reC] at hcall HBr
      rcases Htc.out with ⟨h4, hcm⟩ | ⟨h4, hcm⟩
      · have b4 : (rk == 4) = true := by rw [h4]; rfl
        clear h4
        by_cases m1 : 1 < rmx
        · by_cases m2 : rmx < rmn
          · obtain rfl : c = rmn := by omega
            clear hcm
            repeat' (first | (refine store_re (r := r') hone _ _ rfl rfl rfl rfl ?_; simp only [reC]) | go_values | go_skip | go_guarded | go_step | go_upon)
            refine Calls.mono (hcall) ?_
            rintro _ w2 ⟨rfl, hb2⟩
            dsimp only
            clear hcall
            have hgb := (HBr.out.trans (hb2.mono HBr.out.size))
            have hgc := HX2.out w2 hgb
            have e0 := (cell_of_row _ _ 0 _ _ _ hgc).trans HC3.out.1
            have e5 := (cell_of_row _ _ 5 _ _ _ hgc).trans HC3.out.2.1
            have e6 := (cell_of_row _ _ 6 _ _ _ hgc).trans HC3.out.2.2
            clear hgb hgc
            have HB2 : Hid (Below w.heap.size w w2) := Lib.hid (HW.out.trans ((HBr.out.trans (hb2.mono HBr.out.size)).mono HW.out.size))
            have HX3 := Lib.hid (HX2.out w2 (HBr.out.trans (hb2.mono HBr.out.size)))
            clear hb2 HBr HW HX2
            by_cases hov : 1001 < n + y
            · have e := Hover.out (k + 1) (by rw [hsum.out]; exact hov)
              subst e
              repeat' (first | go_values | go_skip | go_guarded | go_step | go_upon)
              go_ret
              exact ⟨rfl, HB2.out⟩
            · have hov' : n + y ≤ 1001 := by omega
              repeat' (first | go_values | go_skip | go_guarded | go_step | go_upon)
              go_roundg (gk - 1)
              case rel => exact ⟨k + 1, n + y, by go_num, by omega, rfl, by omega, by omega, Lib.hid hsum.out.symm, HX3, HB2⟩
              case measure => omega
          · obtain rfl : c = rmx := by omega
            clear hcm
            repeat' (first | (refine store_re (r := r') hone _ _ rfl rfl rfl rfl ?_; simp only [reC]) | go_values | go_skip | go_guarded | go_step | go_upon)
            refine Calls.mono (hcall) ?_
            rintro _ w2 ⟨rfl, hb2⟩
            dsimp only
            clear hcall
            have hgb := (HBr.out.trans (hb2.mono HBr.out.size))
            have hgc := HX2.out w2 hgb
            have e0 := (cell_of_row _ _ 0 _ _ _ hgc).trans HC3.out.1
            have e5 := (cell_of_row _ _ 5 _ _ _ hgc).trans HC3.out.2.1
            have e6 := (cell_of_row _ _ 6 _ _ _ hgc).trans HC3.out.2.2
            clear hgb hgc
            have HB2 : Hid (Below w.heap.size w w2) := Lib.hid (HW.out.trans ((HBr.out.trans (hb2.mono HBr.out.size)).mono HW.out.size))
            have HX3 := Lib.hid (HX2.out w2 (HBr.out.trans (hb2.mono HBr.out.size)))
            clear hb2 HBr HW HX2
            by_cases hov : 1001 < n + y
            · have e := Hover.out (k + 1) (by rw [hsum.out]; exact hov)
              subst e
              repeat' (first | go_values | go_skip | go_guarded | go_step | go_upon)
              go_ret
              exact ⟨rfl, HB2.out⟩
            · have hov' : n + y ≤ 1001 := by omega
              repeat' (first | go_values | go_skip | go_guarded | go_step | go_upon)
              go_roundg (gk - 1)
              case rel => exact ⟨k + 1, n + y, by go_num, by omega, rfl, by omega, by omega, Lib.hid hsum.out.symm, HX3, HB2⟩
              case measure => omega
        · by_cases m2 : 1 < rmn
          · obtain rfl : c = rmn := by omega
            clear hcm
            repeat' (first | (refine store_re (r := r') hone _ _ rfl rfl rfl rfl ?_; simp only [reC]) | go_values | go_skip | go_guarded | go_step | go_upon)
            refine Calls.mono (hcall) ?_
            rintro _ w2 ⟨rfl, hb2⟩
            dsimp only
            clear hcall
            have hgb := (HBr.out.trans (hb2.mono HBr.out.size))
            have hgc := HX2.out w2 hgb
            have e0 := (cell_of_row _ _ 0 _ _ _ hgc).trans HC3.out.1
            have e5 := (cell_of_row _ _ 5 _ _ _ hgc).trans HC3.out.2.1
            have e6 := (cell_of_row _ _ 6 _ _ _ hgc).trans HC3.out.2.2
            clear hgb hgc
            have HB2 : Hid (Below w.heap.size w w2) := Lib.hid (HW.out.trans ((HBr.out.trans (hb2.mono HBr.out.size)).mono HW.out.size))
            have HX3 := Lib.hid (HX2.out w2 (HBr.out.trans (hb2.mono HBr.out.size)))
            clear hb2 HBr HW HX2
            by_cases hov : 1001 < n + y
            · have e := Hover.out (k + 1) (by rw [hsum.out]; exact hov)
              subst e
              repeat' (first | go_values | go_skip | go_guarded | go_step | go_upon)
              go_ret
              exact ⟨rfl, HB2.out⟩
            · have hov' : n + y ≤ 1001 := by omega
              repeat' (first | go_values | go_skip | go_guarded | go_step | go_upon)
              go_roundg (gk - 1)
              case rel => exact ⟨k + 1, n + y, by go_num, by omega, rfl, by omega, by omega, Lib.hid hsum.out.symm, HX3, HB2⟩
              case measure => omega
          · have hc1 : c = 1 := by omega
            have hyx : y = x := by rw [Hy.out, hc1, Int.mul_one]
            subst hyx
            clear hc1 hcm Hy hwm
            repeat' (first | (refine store_re (r := r') hone _ _ rfl rfl rfl rfl ?_; simp only [reC]) | go_values | go_skip | go_guarded | go_step | go_upon)
            refine Calls.mono (hcall) ?_
            rintro _ w2 ⟨rfl, hb2⟩
            dsimp only
            clear hcall
            have hgb := (HBr.out.trans (hb2.mono HBr.out.size))
            have hgc := HX2.out w2 hgb
            have e0 := (cell_of_row _ _ 0 _ _ _ hgc).trans HC3.out.1
            have e5 := (cell_of_row _ _ 5 _ _ _ hgc).trans HC3.out.2.1
            have e6 := (cell_of_row _ _ 6 _ _ _ hgc).trans HC3.out.2.2
            clear hgb hgc
            have HB2 : Hid (Below w.heap.size w w2) := Lib.hid (HW.out.trans ((HBr.out.trans (hb2.mono HBr.out.size)).mono HW.out.size))
            have HX3 := Lib.hid (HX2.out w2 (HBr.out.trans (hb2.mono HBr.out.size)))
            clear hb2 HBr HW HX2
            by_cases hov : 1001 < n + y
            · have e := Hover.out (k + 1) (by rw [hsum.out]; exact hov)
              subst e
              repeat' (first | go_values | go_skip | go_guarded | go_step | go_upon)
              go_ret
              exact ⟨rfl, HB2.out⟩
            · have hov' : n + y ≤ 1001 := by omega
              repeat' (first | go_values | go_skip | go_guarded | go_step | go_upon)
              go_roundg (gk - 1)
              case rel => exact ⟨k + 1, n + y, by go_num, by omega, rfl, by omega, by omega, Lib.hid hsum.out.symm, HX3, HB2⟩
              case measure => omega
      · have b4 : (rk == 4) = false := beq_false_of_ne h4
        have hyx : y = x := by rw [Hy.out, hcm, Int.mul_one]
        subst hyx
        clear h4 Hy hwm
        repeat' (first | (refine store_re (r := r') hone _ _ rfl rfl rfl rfl ?_; simp only [reC]) | go_values | go_skip | go_guarded | go_step | go_upon)
        refine Calls.mono (hcall) ?_
        rintro _ w2 ⟨rfl, hb2⟩
        dsimp only
        clear hcall
        have hgb := (HBr.out.trans (hb2.mono HBr.out.size))
        have hgc := HX2.out w2 hgb
        have e0 := (cell_of_row _ _ 0 _ _ _ hgc).trans HC3.out.1
        have e5 := (cell_of_row _ _ 5 _ _ _ hgc).trans HC3.out.2.1
        have e6 := (cell_of_row _ _ 6 _ _ _ hgc).trans HC3.out.2.2
        clear hgb hgc
        have HB2 : Hid (Below w.heap.size w w2) := Lib.hid (HW.out.trans ((HBr.out.trans (hb2.mono HBr.out.size)).mono HW.out.size))
        have HX3 := Lib.hid (HX2.out w2 (HBr.out.trans (hb2.mono HBr.out.size)))
        clear hb2 HBr HW HX2
        by_cases hov : 1001 < n + y
        · have e := Hover.out (k + 1) (by rw [hsum.out]; exact hov)
          subst e
          repeat' (first | go_values | go_skip | go_guarded | go_step | go_upon)
          go_ret
          exact ⟨rfl, HB2.out⟩
        · have hov' : n + y ≤ 1001 := by omega
          repeat' (first | go_values | go_skip | go_guarded | go_step | go_upon)
          go_roundg (gk - 1)
          case rel => exact ⟨k + 1, n + y, by go_num, by omega, rfl, by omega, by omega, Lib.hid hsum.out.symm, HX3, HB2⟩
          case measure => omega
    · have hlt' : ¬ (k : Int) < rs.length := by omega
      have e : N = n := by
        have := Hall.out k (by have := HL.out; omega)
        rw [← HC.out] at this
        omega
      subst e
      clear IH hk hc
      repeat' (first | go_values | go_skip | go_guarded | go_step | go_upon)
      go_ret
      exact ⟨rfl, HW.out⟩
end
/-- the size, up to 1001 -/
theorem ref_Size : ∀ (h : Nat) (r : RN) (t : Re) (w : World), shp h t = true → ReAt w h r t → Calls Tryd.prog 40 #[reV r, .int .i64 1001] w fun e w' => e = .returned (.int .i64 (szR h t)) ∧ Below w.heap.size w w'
  | 0, _, _, _, _, hr => hr.elim
  | _ + 1, r, t, w, hs, hr => rsize_next (ref_Size _) r t w hs hr
end Go.Proofs.YtkdbdpcdggildaaDoor
