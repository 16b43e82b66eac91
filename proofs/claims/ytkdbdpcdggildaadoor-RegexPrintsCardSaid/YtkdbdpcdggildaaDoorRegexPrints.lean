/- Walk: RegexPrints. Conditions: a tree that came in; the tables lie. -/
import Derived.Test.YtkdbdpcdggildaaDoorTxtRef2
import Derived.Test.YtkdbdpcdggildaaDoorRegexRights
namespace Go.Proofs.YtkdbdpcdggildaaDoor
open Go.RowKit Go.Lib
/-- what Print tells -/
noncomputable def prR (h : Nat) (t : Re) : List UInt8 × Int := if rgt h t = 0 then (if 512 < (txt h t).length then ([], 2) else (txt h t, 0)) else ([], rgt h t)
theorem rgt_zero {h : Nat} {t : Re} (hz : rgt h t = 0) (ha : allW h t) : Gd h t := by
  unfold rgt at hz
  split at hz
  · cases hz
  · split at hz
    · cases hz
    · split at hz
      · rename_i h1 h2 h3
        exact ⟨h3, by omega, ha⟩
      · cases hz
set_option maxRecDepth 100000 in
set_option maxHeartbeats 1000000 in
theorem regex_Print (h : Nat) (r : RN) (t : Re) (w : World) (hr : ReAt w h r t) (ha : allW h t) (hT : TT w) : Calls Tryd.prog 5 #[reV r] w fun e w' => e = .returned (.tuple #[.string ⟨(prR h t).1.toArray⟩, .int .i64 (prR h t).2]) ∧ Below w.heap.size w w' := by
  have HB := Lib.hid (re_box w r)
  have hlt : w.heap.size < (w.alloc (.cells (reC r).toArray 28)).heap.size := by simp
  have HX : Hid (∀ W, Below (w.alloc (.cells (reC r).toArray 28)).heap.size (w.alloc (.cells (reC r).toArray 28)) W → Cells8 W w.heap.size 0 r) := Lib.hid fun W hW => by
    have hg := Go.heap_alloc_new w (.cells (reC r).toArray 28)
    refine ⟨?_, ?_, ?_, ?_, ?_, ?_, ?_, ?_⟩ <;> (rw [hW.cell hlt, cell_of_row _ _ _ _ _ _ hg]; rfl)
  have hR := regex_Right h r t _ (hr.keep HB.out)
  have HTx : Hid (rgt h t = 0 → ∀ W, Below w.heap.size w W → Calls Tryd.prog _ #[reV r] W fun e w' => e = .returned (.string ⟨(txt h t).toArray⟩) ∧ Below W.heap.size W w') := Lib.hid fun hz W hW => regex_text h r t W (hr.keep hW) (rgt_zero hz ha) (hT.keep hW)
  have HLn : Hid (rgt h t = 0 → (txt h t).length ≤ 2048000) := Lib.hid fun hz => (rgt_zero hz ha).len
  have hone := hr.one
  have HP : Hid ((rgt h t ≠ 0 → prR h t = ([], rgt h t)) ∧ (rgt h t = 0 → 512 < (txt h t).length → prR h t = ([], 2)) ∧ (rgt h t = 0 → ¬ 512 < (txt h t).length → prR h t = (txt h t, 0))) := Lib.hid ⟨fun h1 => by unfold prR; rw [if_neg h1], fun h1 h2 => by unfold prR; rw [if_pos h1, if_pos h2], fun h1 h2 => by unfold prR; rw [if_pos h1, if_neg h2]⟩
  generalize rgt h t = z at hR HTx HLn HP
  generalize txt h t = U at HTx HLn HP
  generalize prR h t = R at HP ⊢
  clear hr ha hT hlt
  simp only [reV, reC] at hR HB HX HTx ⊢
  by_cases hz : z = 0
  · have hTx := HTx.out hz
    have hl := HLn.out hz
    have HP2 := Lib.hid (HP.out.2.1 hz)
    have HP3 := Lib.hid (HP.out.2.2 hz)
    subst hz
    clear HTx HLn HP
    have HTx := Lib.hid hTx
    clear hTx
    by_cases h5 : 512 < U.length
    · obtain rfl := HP2.out h5
      have h5' : (512 : Int) < U.length := by omega
      clear HP2 HP3
      go_enter Tryd.func5, Tryd.ntmps5
      repeat' (first | go_values | go_skip | go_guarded | go_step | go_upon)
      refine Calls.mono (hR) ?_
      rintro _ w1 ⟨rfl, hb1⟩
      dsimp only
      obtain ⟨c0, c1, c2, c3, c4, c5, c6, c7⟩ := HX.out w1 hb1
      have HB1 := Lib.hid (HB.out.trans (hb1.mono HB.out.size))
      clear hb1 HX HB hR
      repeat' (first | go_values | go_skip | go_guarded | go_step | go_upon)
      refine Calls.mono (HTx.out w1 HB1.out) ?_
      rintro _ w2 ⟨rfl, hb2⟩
      dsimp only
      have HB2 := Lib.hid (HB1.out.trans (hb2.mono HB1.out.size))
      clear hb2 HB1 HTx c0 c1 c2 c3 c4 c5 c6 c7
      repeat' (first | go_values | go_skip | go_guarded | go_step | go_upon)
      go_ret2
      exact ⟨rfl, HB2.out⟩
    · obtain rfl := HP3.out h5
      have h5' : ¬ (512 : Int) < U.length := by omega
      clear HP2 HP3
      go_enter Tryd.func5, Tryd.ntmps5
      repeat' (first | go_values | go_skip | go_guarded | go_step | go_upon)
      refine Calls.mono (hR) ?_
      rintro _ w1 ⟨rfl, hb1⟩
      dsimp only
      obtain ⟨c0, c1, c2, c3, c4, c5, c6, c7⟩ := HX.out w1 hb1
      have HB1 := Lib.hid (HB.out.trans (hb1.mono HB.out.size))
      clear hb1 HX HB hR
      repeat' (first | go_values | go_skip | go_guarded | go_step | go_upon)
      refine Calls.mono (HTx.out w1 HB1.out) ?_
      rintro _ w2 ⟨rfl, hb2⟩
      dsimp only
      have HB2 := Lib.hid (HB1.out.trans (hb2.mono HB1.out.size))
      clear hb2 HB1 HTx c0 c1 c2 c3 c4 c5 c6 c7
      repeat' (first | go_values | go_skip | go_guarded | go_step | go_upon)
      go_ret2
      exact ⟨rfl, HB2.out⟩
  · obtain rfl := HP.out.1 hz
    have hzb : (z != 0) = true := bne_iff_ne.2 hz
    clear HTx HLn HP hz
    go_enter Tryd.func5, Tryd.ntmps5
    repeat' (first | go_values | go_skip | go_guarded | go_step | go_upon)
    refine Calls.mono (hR) ?_
    rintro _ w1 ⟨rfl, hb1⟩
    dsimp only
    have HB1 := Lib.hid (HB.out.trans (hb1.mono HB.out.size))
    clear hb1 HX HB hR
    repeat' (first | go_values | go_skip | go_guarded | go_step | go_upon)
    go_ret2
    exact ⟨rfl, HB1.out⟩
set_option maxRecDepth 100000 in
set_option maxHeartbeats 1000000 in
theorem ref_Print (h : Nat) (r : RN) (t : Re) (w : World) (hr : ReAt w h r t) (ha : allW h t) (hT : TT w) : Calls Tryd.prog 6 #[reV r] w fun e w' => e = .returned (.tuple #[.string ⟨(prR h t).1.toArray⟩, .int .i64 (prR h t).2]) ∧ Below w.heap.size w w' := by
  have HB := Lib.hid (re_box w r)
  have hlt : w.heap.size < (w.alloc (.cells (reC r).toArray 28)).heap.size := by simp
  have HX : Hid (∀ W, Below (w.alloc (.cells (reC r).toArray 28)).heap.size (w.alloc (.cells (reC r).toArray 28)) W → Cells8 W w.heap.size 0 r) := Lib.hid fun W hW => by
    have hg := Go.heap_alloc_new w (.cells (reC r).toArray 28)
    refine ⟨?_, ?_, ?_, ?_, ?_, ?_, ?_, ?_⟩ <;> (rw [hW.cell hlt, cell_of_row _ _ _ _ _ _ hg]; rfl)
  have hR := ref_Right h r t _ (hr.keep HB.out)
  have HTx : Hid (rgt h t = 0 → ∀ W, Below w.heap.size w W → Calls Tryd.prog _ #[reV r] W fun e w' => e = .returned (.string ⟨(txt h t).toArray⟩) ∧ Below W.heap.size W w') := Lib.hid fun hz W hW => ref_Text h r t W (hr.keep hW) (rgt_zero hz ha) (hT.keep hW)
  have HLn : Hid (rgt h t = 0 → (txt h t).length ≤ 2048000) := Lib.hid fun hz => (rgt_zero hz ha).len
  have hone := hr.one
  have HP : Hid ((rgt h t ≠ 0 → prR h t = ([], rgt h t)) ∧ (rgt h t = 0 → 512 < (txt h t).length → prR h t = ([], 2)) ∧ (rgt h t = 0 → ¬ 512 < (txt h t).length → prR h t = (txt h t, 0))) := Lib.hid ⟨fun h1 => by unfold prR; rw [if_neg h1], fun h1 h2 => by unfold prR; rw [if_pos h1, if_pos h2], fun h1 h2 => by unfold prR; rw [if_pos h1, if_neg h2]⟩
  generalize rgt h t = z at hR HTx HLn HP
  generalize txt h t = U at HTx HLn HP
  generalize prR h t = R at HP ⊢
  clear hr ha hT hlt
  simp only [reV, reC] at hR HB HX HTx ⊢
  by_cases hz : z = 0
  · have hTx := HTx.out hz
    have hl := HLn.out hz
    have HP2 := Lib.hid (HP.out.2.1 hz)
    have HP3 := Lib.hid (HP.out.2.2 hz)
    subst hz
    clear HTx HLn HP
    have HTx := Lib.hid hTx
    clear hTx
    by_cases h5 : 512 < U.length
    · obtain rfl := HP2.out h5
      have h5' : (512 : Int) < U.length := by omega
      clear HP2 HP3
      go_enter Tryd.func6, Tryd.ntmps6
      repeat' (first | go_values | go_skip | go_guarded | go_step | go_upon)
      refine Calls.mono (hR) ?_
      rintro _ w1 ⟨rfl, hb1⟩
      dsimp only
      obtain ⟨c0, c1, c2, c3, c4, c5, c6, c7⟩ := HX.out w1 hb1
      have HB1 := Lib.hid (HB.out.trans (hb1.mono HB.out.size))
      clear hb1 HX HB hR
      repeat' (first | go_values | go_skip | go_guarded | go_step | go_upon)
      refine Calls.mono (HTx.out w1 HB1.out) ?_
      rintro _ w2 ⟨rfl, hb2⟩
      dsimp only
      have HB2 := Lib.hid (HB1.out.trans (hb2.mono HB1.out.size))
      clear hb2 HB1 HTx c0 c1 c2 c3 c4 c5 c6 c7
      repeat' (first | go_values | go_skip | go_guarded | go_step | go_upon)
      go_ret2
      exact ⟨rfl, HB2.out⟩
    · obtain rfl := HP3.out h5
      have h5' : ¬ (512 : Int) < U.length := by omega
      clear HP2 HP3
      go_enter Tryd.func6, Tryd.ntmps6
      repeat' (first | go_values | go_skip | go_guarded | go_step | go_upon)
      refine Calls.mono (hR) ?_
      rintro _ w1 ⟨rfl, hb1⟩
      dsimp only
      obtain ⟨c0, c1, c2, c3, c4, c5, c6, c7⟩ := HX.out w1 hb1
      have HB1 := Lib.hid (HB.out.trans (hb1.mono HB.out.size))
      clear hb1 HX HB hR
      repeat' (first | go_values | go_skip | go_guarded | go_step | go_upon)
      refine Calls.mono (HTx.out w1 HB1.out) ?_
      rintro _ w2 ⟨rfl, hb2⟩
      dsimp only
      have HB2 := Lib.hid (HB1.out.trans (hb2.mono HB1.out.size))
      clear hb2 HB1 HTx c0 c1 c2 c3 c4 c5 c6 c7
      repeat' (first | go_values | go_skip | go_guarded | go_step | go_upon)
      go_ret2
      exact ⟨rfl, HB2.out⟩
  · obtain rfl := HP.out.1 hz
    have hzb : (z != 0) = true := bne_iff_ne.2 hz
    clear HTx HLn HP hz
    go_enter Tryd.func6, Tryd.ntmps6
    repeat' (first | go_values | go_skip | go_guarded | go_step | go_upon)
    refine Calls.mono (hR) ?_
    rintro _ w1 ⟨rfl, hb1⟩
    dsimp only
    have HB1 := Lib.hid (HB.out.trans (hb1.mono HB.out.size))
    clear hb1 HX HB hR
    repeat' (first | go_values | go_skip | go_guarded | go_step | go_upon)
    go_ret2
    exact ⟨rfl, HB1.out⟩
set_option maxRecDepth 100000 in
set_option maxHeartbeats 1000000 in
theorem law_RegexPrints (w : World) (h : Nat) (r : RN) (t : Re) (hr : ReAt w h r t) (ha : allW h t) (hT : TT w) : Calls Tryd.prog 3 #[reV r] w fun e w' => e = .returned (.bool true) ∧ Below w.heap.size w w' := by
  have HB := Lib.hid (re_box w r)
  have hlt : w.heap.size < (w.alloc (.cells (reC r).toArray 28)).heap.size := by simp
  have HX : Hid (∀ W, Below (w.alloc (.cells (reC r).toArray 28)).heap.size (w.alloc (.cells (reC r).toArray 28)) W → Cells8 W w.heap.size 0 r) := Lib.hid fun W hW => by
    have hg := Go.heap_alloc_new w (.cells (reC r).toArray 28)
    refine ⟨?_, ?_, ?_, ?_, ?_, ?_, ?_, ?_⟩ <;> (rw [hW.cell hlt, cell_of_row _ _ _ _ _ _ hg]; rfl)
  have HP : Hid (∀ W, Below w.heap.size w W → Calls Tryd.prog _ #[reV r] W _) := Lib.hid fun W hW => regex_Print h r t W (hr.keep hW) ha (hT.keep hW)
  have HQ : Hid (∀ W, Below w.heap.size w W → Calls Tryd.prog _ #[reV r] W _) := Lib.hid fun W hW => ref_Print h r t W (hr.keep hW) ha (hT.keep hW)
  have hone := hr.one
  obtain ⟨R, hR⟩ : ∃ R, prR h t = R := ⟨_, rfl⟩
  rw [hR] at HP HQ
  obtain ⟨s, z⟩ := R
  dsimp only at HP HQ
  clear hr ha hT hlt hR
  simp only [reV, reC] at HB HX HP HQ ⊢
  go_enter Tryd.func3, Tryd.ntmps3
  repeat' (first | go_values | go_skip | go_guarded | go_step | go_upon)
  refine Calls.mono (HP.out _ HB.out) ?_
  rintro _ w1 ⟨rfl, hb1⟩
  dsimp only
  obtain ⟨c0, c1, c2, c3, c4, c5, c6, c7⟩ := HX.out w1 hb1
  have HB1 := Lib.hid (HB.out.trans (hb1.mono HB.out.size))
  clear hb1 HX HB HP
  repeat' (first | go_values | go_skip | go_guarded | go_step | go_upon)
  refine Calls.mono (HQ.out w1 HB1.out) ?_
  rintro _ w2 ⟨rfl, hb2⟩
  dsimp only
  have HB2 := Lib.hid (HB1.out.trans (hb2.mono HB1.out.size))
  clear hb2 HB1 HQ c0 c1 c2 c3 c4 c5 c6 c7
  repeat' (first | go_values | go_skip | go_guarded | go_step | go_upon)
  go_ret
  exact ⟨rfl, HB2.out⟩
end Go.Proofs.YtkdbdpcdggildaaDoor
