/- Walk: RegexRights. No conditions. Walk: RegexPrints. Conditions: a tree that came in; the tables lie. Walk: a tree is like itself, wherever it lies (the document's Like). No conditions. Walk: the law RegexBack. Conditions: a tree that came in; the tables lie. -/
import Derived.Test.YtnbfifmnigeolaaDoorReRight
import Derived.Test.YtnbfifmnigeolaaDoorReOpen
import Derived.Test.YtnbfifmnigeolaaDoorTxtRef2
import Derived.Test.YtnbfifmnigeolaaDoorReDeep
import Derived.Test.YtnbfifmnigeolaaDoorRegion
import Derived.Test.YtnbfifmnigeolaaDoorSetRef
import Derived.Deep.LoopGhost
import Derived.Test.YtnbfifmnigeolaaDoorPrsE
import Derived.Test.YtnbfifmnigeolaaDoorInvA
namespace Go.Proofs.YtnbfifmnigeolaaDoor
open Go.RowKit Go.Lib
set_option maxRecDepth 100000 in
set_option maxHeartbeats 1000000 in
theorem ref_Right (h : Nat) (r : RN) (t : Re) (w : World) (hr : ReAt w h r t) : Calls Tryd.prog 11 #[reV r] w fun e w' => e = .returned (.int .i64 (rgt h t)) ∧ Below w.heap.size w w' := by
  have HB := Lib.hid (re_box w r)
  have HD : Calls Tryd.prog 21 #[reV r, .int .i64 31] _ _ := ref_deep h r t 31 _ (by decide) (by decide) (hr.keep HB.out)
  have HC : Hid (∀ W, Below w.heap.size w W → Calls Tryd.prog 22 #[reV r, .int .i64 513] W fun e w' => e = .returned (.int .i64 (min (cnt h t) 513 : Nat)) ∧ Below W.heap.size W w') := Lib.hid (fun W hW => ref_nodes h r t 513 W (by decide) (by decide) (hr.keep hW))
  have HS : Hid (∀ W, Below w.heap.size w W → Calls Tryd.prog 23 #[reV r] W fun e w' => e = .returned (.bool (shp h t)) ∧ Below W.heap.size W w') := Lib.hid (fun W hW => ref_every h r t W (hr.keep hW))
  have hone := hr.one
  have HR := Lib.hid (@rgt_of h t)
  obtain ⟨R, hR⟩ : ∃ R, rgt h t = R := ⟨_, rfl⟩
  rw [hR] at HR ⊢
  obtain ⟨d, hd⟩ : ∃ d : Nat, min (dep h t) 31 = d := ⟨_, rfl⟩
  obtain ⟨c, hc⟩ : ∃ c : Nat, min (cnt h t) 513 = c := ⟨_, rfl⟩
  obtain ⟨x, hx⟩ : ∃ x, shp h t = x := ⟨_, rfl⟩
  rw [hd] at HD
  rw [hc] at HC
  rw [hx] at HS HR
  have Hd := Lib.hid hd
  have Hc := Lib.hid hc
  clear hd hR hc hx
  have cells : ∀ W, Below (w.alloc (.cells (reC r).toArray 28)).heap.size (w.alloc (.cells (reC r).toArray 28)) W → Cells8 W w.heap.size 0 r := fun W hW => by
    have hlt : w.heap.size < (w.alloc (.cells (reC r).toArray 28)).heap.size := by simp
    have hg := Go.heap_alloc_new w (.cells (reC r).toArray 28)
    refine ⟨?_, ?_, ?_, ?_, ?_, ?_, ?_, ?_⟩ <;> (rw [hW.cell hlt, cell_of_row _ _ _ _ _ _ hg]; rfl)
  have HX := Lib.hid cells
  clear cells
  simp only [reV, reC] at HD HB HC HS HX ⊢
  go_enter Tryd.func11, Tryd.ntmps11
  repeat' (first | go_values | go_skip | go_guarded | go_step | go_upon)
  refine Calls.mono (HD) ?_
  rintro _ w1 ⟨rfl, hb1⟩
  dsimp only
  have H1 := Lib.hid (HB.out.trans (hb1.mono HB.out.size))
  have Hb1 := Lib.hid hb1
  obtain ⟨c0, c1, c2, c3, c4, c5, c6, c7⟩ := HX.out w1 hb1
  clear hb1 HB HD
  by_cases hd5 : 30 < d
  · have hd5' : (30 : Int) < d := by omega
    have Hd5 := Lib.hid hd5
    clear HX hd5
    repeat' (first | go_values | go_skip | go_guarded | go_step | go_upon)
    go_ret
    refine ⟨?_, H1.out⟩
    have := HR.out 2 (fun _ => rfl) (fun _ _ => rfl) (fun h => absurd (by have := Hd.out; have := Hd5.out; omega) h)
    rw [this]; rfl
  have hd5' : ¬ (30 : Int) < d := by omega
  have HC1 := Lib.hid (HC.out w1 H1.out)
  have Hnd : Hid (¬ 30 < dep h t) := Lib.hid (by have := Hd.out; omega)
  clear HC
  repeat' (first | go_values | go_skip | go_guarded | go_step | go_upon)
  refine Calls.mono (HC1.out) ?_
  rintro _ w2 ⟨rfl, hb2⟩
  dsimp only
  have H2 := Lib.hid (H1.out.trans (hb2.mono H1.out.size))
  obtain ⟨d0, d1, d2, d3, d4, d5, d6, d7⟩ := HX.out w2 (Hb1.out.trans (hb2.mono Hb1.out.size))
  clear hb2 HX HC1 Hb1 c0 c1 c2 c3 c4 c5 c6 c7
  by_cases hc5 : 512 < c
  · have hc5' : (512 : Int) < c := by omega
    have H5 := Lib.hid hc5
    clear hc5 HS
    repeat' (first | go_values | go_skip | go_guarded | go_step | go_upon)
    go_ret
    refine ⟨?_, H2.out⟩
    have := HR.out 2 (fun _ => rfl) (fun _ _ => rfl) (fun _ h => absurd (by have := Hc.out; have := H5.out; omega) h)
    rw [this]; rfl
  · have hc5' : ¬ (512 : Int) < c := by omega
    have H5 := Lib.hid hc5
    have HS2 := Lib.hid (HS.out w2 H2.out)
    clear hc5 HS
    repeat' (first | go_values | go_skip | go_guarded | go_step | go_upon)
    refine Calls.mono (HS2.out) ?_
    rintro _ w3 ⟨rfl, hb3⟩
    dsimp only
    clear HS2
    have HE := HR.out (if x then 0 else 61) (fun h => absurd h Hnd.out) (fun _ h => absurd h (by have := Hc.out; have := H5.out; omega)) (fun _ _ => rfl)
    cases x with
    | true =>
      repeat' (first | go_values | go_skip | go_guarded | go_step | go_upon)
      go_ret
      exact ⟨by rw [HE]; rfl, H2.out.trans (hb3.mono H2.out.size)⟩
    | false =>
      repeat' (first | go_values | go_skip | go_guarded | go_step | go_upon)
      go_ret
      exact ⟨by rw [HE]; rfl, H2.out.trans (hb3.mono H2.out.size)⟩
end Go.Proofs.YtnbfifmnigeolaaDoor
namespace Go.Proofs.YtnbfifmnigeolaaDoor
open Go.RowKit Go.Lib
/-- what Print tells -/
noncomputable def prR (h : Nat) (t : Re) : List UInt8 × Int := if rgt h t = 0 then (if 512 < (txt h t).length then ([], 2) else (txt h t, 0)) else ([], rgt h t)
theorem rgt_zero {h : Nat} {t : Re} (hz : rgt h t = 0) (ha : allW h t) : Gd h t := by
  unfold rgt at hz
  split at hz
  · cases hz
  · split at hz
    · cases hz
    · split at hz
      · rename_i h1 h2 h3
        exact ⟨h3, by omega, ha⟩
      · cases hz
set_option maxRecDepth 100000 in
set_option maxHeartbeats 1000000 in
theorem regex_Print (h : Nat) (r : RN) (t : Re) (w : World) (hr : ReAt w h r t) (ha : allW h t) (hT : TT w) : Calls Tryd.prog 6 #[reV r] w fun e w' => e = .returned (.tuple #[.string ⟨(prR h t).1.toArray⟩, .int .i64 (prR h t).2]) ∧ Below w.heap.size w w' := by
  have HB := Lib.hid (re_box w r)
  have hlt : w.heap.size < (w.alloc (.cells (reC r).toArray 28)).heap.size := by simp
  have HX : Hid (∀ W, Below (w.alloc (.cells (reC r).toArray 28)).heap.size (w.alloc (.cells (reC r).toArray 28)) W → Cells8 W w.heap.size 0 r) := Lib.hid fun W hW => by
    have hg := Go.heap_alloc_new w (.cells (reC r).toArray 28)
    refine ⟨?_, ?_, ?_, ?_, ?_, ?_, ?_, ?_⟩ <;> (rw [hW.cell hlt, cell_of_row _ _ _ _ _ _ hg]; rfl)
  have hR := regex_Right h r t _ (hr.keep HB.out)
  have HTx : Hid (rgt h t = 0 → ∀ W, Below w.heap.size w W → Calls Tryd.prog _ #[reV r] W fun e w' => e = .returned (.string ⟨(txt h t).toArray⟩) ∧ Below W.heap.size W w') := Lib.hid fun hz W hW => regex_text h r t W (hr.keep hW) (rgt_zero hz ha) (hT.keep hW)
  have HLn : Hid (rgt h t = 0 → (txt h t).length ≤ 2048000) := Lib.hid fun hz => (rgt_zero hz ha).len
  have hone := hr.one
  have HP : Hid ((rgt h t ≠ 0 → prR h t = ([], rgt h t)) ∧ (rgt h t = 0 → 512 < (txt h t).length → prR h t = ([], 2)) ∧ (rgt h t = 0 → ¬ 512 < (txt h t).length → prR h t = (txt h t, 0))) := Lib.hid ⟨fun h1 => by unfold prR; rw [if_neg h1], fun h1 h2 => by unfold prR; rw [if_pos h1, if_pos h2], fun h1 h2 => by unfold prR; rw [if_pos h1, if_neg h2]⟩
  generalize rgt h t = z at hR HTx HLn HP
  generalize txt h t = U at HTx HLn HP
  generalize prR h t = R at HP ⊢
  clear hr ha hT hlt
  simp only [reV, reC] at hR HB HX HTx ⊢
  by_cases hz : z = 0
  · have hTx := HTx.out hz
    have hl := HLn.out hz
    have HP2 := Lib.hid (HP.out.2.1 hz)
    have HP3 := Lib.hid (HP.out.2.2 hz)
    subst hz
    clear HTx HLn HP
    have HTx := Lib.hid hTx
    clear hTx
    by_cases h5 : 512 < U.length
    · obtain rfl := HP2.out h5
      have h5' : (512 : Int) < U.length := by omega
      clear HP2 HP3
      go_enter Tryd.func6, Tryd.ntmps6
      repeat' (first | go_values | go_skip | go_guarded | go_step | go_upon)
      refine Calls.mono (hR) ?_
      rintro _ w1 ⟨rfl, hb1⟩
      dsimp only
      obtain ⟨c0, c1, c2, c3, c4, c5, c6, c7⟩ := HX.out w1 hb1
      have HB1 := Lib.hid (HB.out.trans (hb1.mono HB.out.size))
      clear hb1 HX HB hR
      repeat' (first | go_values | go_skip | go_guarded | go_step | go_upon)
      refine Calls.mono (HTx.out w1 HB1.out) ?_
      rintro _ w2 ⟨rfl, hb2⟩
      dsimp only
      have HB2 := Lib.hid (HB1.out.trans (hb2.mono HB1.out.size))
      clear hb2 HB1 HTx c0 c1 c2 c3 c4 c5 c6 c7
      repeat' (first | go_values | go_skip | go_guarded | go_step | go_upon)
      go_ret2
      exact ⟨rfl, HB2.out⟩
    · obtain rfl := HP3.out h5
      have h5' : ¬ (512 : Int) < U.length := by omega
      clear HP2 HP3
      go_enter Tryd.func6, Tryd.ntmps6
      repeat' (first | go_values | go_skip | go_guarded | go_step | go_upon)
      refine Calls.mono (hR) ?_
      rintro _ w1 ⟨rfl, hb1⟩
      dsimp only
      obtain ⟨c0, c1, c2, c3, c4, c5, c6, c7⟩ := HX.out w1 hb1
      have HB1 := Lib.hid (HB.out.trans (hb1.mono HB.out.size))
      clear hb1 HX HB hR
      repeat' (first | go_values | go_skip | go_guarded | go_step | go_upon)
      refine Calls.mono (HTx.out w1 HB1.out) ?_
      rintro _ w2 ⟨rfl, hb2⟩
      dsimp only
      have HB2 := Lib.hid (HB1.out.trans (hb2.mono HB1.out.size))
      clear hb2 HB1 HTx c0 c1 c2 c3 c4 c5 c6 c7
      repeat' (first | go_values | go_skip | go_guarded | go_step | go_upon)
      go_ret2
      exact ⟨rfl, HB2.out⟩
  · obtain rfl := HP.out.1 hz
    have hzb : (z != 0) = true := bne_iff_ne.2 hz
    clear HTx HLn HP hz
    go_enter Tryd.func6, Tryd.ntmps6
    repeat' (first | go_values | go_skip | go_guarded | go_step | go_upon)
    refine Calls.mono (hR) ?_
    rintro _ w1 ⟨rfl, hb1⟩
    dsimp only
    have HB1 := Lib.hid (HB.out.trans (hb1.mono HB.out.size))
    clear hb1 HX HB hR
    repeat' (first | go_values | go_skip | go_guarded | go_step | go_upon)
    go_ret2
    exact ⟨rfl, HB1.out⟩
set_option maxRecDepth 100000 in
set_option maxHeartbeats 1000000 in
theorem ref_Print (h : Nat) (r : RN) (t : Re) (w : World) (hr : ReAt w h r t) (ha : allW h t) (hT : TT w) : Calls Tryd.prog 5 #[reV r] w fun e w' => e = .returned (.tuple #[.string ⟨(prR h t).1.toArray⟩, .int .i64 (prR h t).2]) ∧ Below w.heap.size w w' := by
  have HB := Lib.hid (re_box w r)
  have hlt : w.heap.size < (w.alloc (.cells (reC r).toArray 28)).heap.size := by simp
  have HX : Hid (∀ W, Below (w.alloc (.cells (reC r).toArray 28)).heap.size (w.alloc (.cells (reC r).toArray 28)) W → Cells8 W w.heap.size 0 r) := Lib.hid fun W hW => by
    have hg := Go.heap_alloc_new w (.cells (reC r).toArray 28)
    refine ⟨?_, ?_, ?_, ?_, ?_, ?_, ?_, ?_⟩ <;> (rw [hW.cell hlt, cell_of_row _ _ _ _ _ _ hg]; rfl)
  have hR := ref_Right h r t _ (hr.keep HB.out)
  have HTx : Hid (rgt h t = 0 → ∀ W, Below w.heap.size w W → Calls Tryd.prog _ #[reV r] W fun e w' => e = .returned (.string ⟨(txt h t).toArray⟩) ∧ Below W.heap.size W w') := Lib.hid fun hz W hW => ref_Text h r t W (hr.keep hW) (rgt_zero hz ha) (hT.keep hW)
  have HLn : Hid (rgt h t = 0 → (txt h t).length ≤ 2048000) := Lib.hid fun hz => (rgt_zero hz ha).len
  have hone := hr.one
  have HP : Hid ((rgt h t ≠ 0 → prR h t = ([], rgt h t)) ∧ (rgt h t = 0 → 512 < (txt h t).length → prR h t = ([], 2)) ∧ (rgt h t = 0 → ¬ 512 < (txt h t).length → prR h t = (txt h t, 0))) := Lib.hid ⟨fun h1 => by unfold prR; rw [if_neg h1], fun h1 h2 => by unfold prR; rw [if_pos h1, if_pos h2], fun h1 h2 => by unfold prR; rw [if_pos h1, if_neg h2]⟩
  generalize rgt h t = z at hR HTx HLn HP
  generalize txt h t = U at HTx HLn HP
  generalize prR h t = R at HP ⊢
  clear hr ha hT hlt
  simp only [reV, reC] at hR HB HX HTx ⊢
  by_cases hz : z = 0
  · have hTx := HTx.out hz
    have hl := HLn.out hz
    have HP2 := Lib.hid (HP.out.2.1 hz)
    have HP3 := Lib.hid (HP.out.2.2 hz)
    subst hz
    clear HTx HLn HP
    have HTx := Lib.hid hTx
    clear hTx
    by_cases h5 : 512 < U.length
    · obtain rfl := HP2.out h5
      have h5' : (512 : Int) < U.length := by omega
      clear HP2 HP3
      go_enter Tryd.func5, Tryd.ntmps5
      repeat' (first | go_values | go_skip | go_guarded | go_step | go_upon)
      refine Calls.mono (hR) ?_
      rintro _ w1 ⟨rfl, hb1⟩
      dsimp only
      obtain ⟨c0, c1, c2, c3, c4, c5, c6, c7⟩ := HX.out w1 hb1
      have HB1 := Lib.hid (HB.out.trans (hb1.mono HB.out.size))
      clear hb1 HX HB hR
      repeat' (first | go_values | go_skip | go_guarded | go_step | go_upon)
      refine Calls.mono (HTx.out w1 HB1.out) ?_
      rintro _ w2 ⟨rfl, hb2⟩
      dsimp only
      have HB2 := Lib.hid (HB1.out.trans (hb2.mono HB1.out.size))
      clear hb2 HB1 HTx c0 c1 c2 c3 c4 c5 c6 c7
      repeat' (first | go_values | go_skip | go_guarded | go_step | go_upon)
      go_ret2
      exact ⟨rfl, HB2.out⟩
    · obtain rfl := HP3.out h5
      have h5' : ¬ (512 : Int) < U.length := by omega
      clear HP2 HP3
      go_enter Tryd.func5, Tryd.ntmps5
      repeat' (first | go_values | go_skip | go_guarded | go_step | go_upon)
      refine Calls.mono (hR) ?_
      rintro _ w1 ⟨rfl, hb1⟩
      dsimp only
      obtain ⟨c0, c1, c2, c3, c4, c5, c6, c7⟩ := HX.out w1 hb1
      have HB1 := Lib.hid (HB.out.trans (hb1.mono HB.out.size))
      clear hb1 HX HB hR
      repeat' (first | go_values | go_skip | go_guarded | go_step | go_upon)
      refine Calls.mono (HTx.out w1 HB1.out) ?_
      rintro _ w2 ⟨rfl, hb2⟩
      dsimp only
      have HB2 := Lib.hid (HB1.out.trans (hb2.mono HB1.out.size))
      clear hb2 HB1 HTx c0 c1 c2 c3 c4 c5 c6 c7
      repeat' (first | go_values | go_skip | go_guarded | go_step | go_upon)
      go_ret2
      exact ⟨rfl, HB2.out⟩
  · obtain rfl := HP.out.1 hz
    have hzb : (z != 0) = true := bne_iff_ne.2 hz
    clear HTx HLn HP hz
    go_enter Tryd.func5, Tryd.ntmps5
    repeat' (first | go_values | go_skip | go_guarded | go_step | go_upon)
    refine Calls.mono (hR) ?_
    rintro _ w1 ⟨rfl, hb1⟩
    dsimp only
    have HB1 := Lib.hid (HB.out.trans (hb1.mono HB.out.size))
    clear hb1 HX HB hR
    repeat' (first | go_values | go_skip | go_guarded | go_step | go_upon)
    go_ret2
    exact ⟨rfl, HB1.out⟩
end Go.Proofs.YtnbfifmnigeolaaDoor
namespace Go.Proofs.YtnbfifmnigeolaaDoor
open Go.RowKit Go.Lib
section
variable {h : Nat} (IH : ∀ (r r' : RN) (t : Re) (w : World), ReAt w h r t → ReAt w h r' t → Calls Tryd.prog 8 #[reV r, reV r'] w fun e w' => e = .returned (.bool true) ∧ Below w.heap.size w w')
include IH
set_option maxRecDepth 100000 in
set_option maxHeartbeats 2000000 in
theorem like_next (r r' : RN) (t : Re) (w : World) (hr : ReAt w (h + 1) r t) (hr' : ReAt w (h + 1) r' t) :
    Calls Tryd.prog 8 #[reV r, reV r'] w fun e w' => e = .returned (.bool true) ∧ Below w.heap.size w w' := by
  obtain ⟨k, s, mn, mx, kids⟩ := t
  obtain ⟨⟨e1, e2, e3, e4⟩, _, _, rs, hrow, hlen, hk⟩ := hr
  obtain ⟨⟨g1, g2, g3, g4⟩, _, _, rs', hrow', hlen', hk'⟩ := hr'
  have hl := hrow.lenOk
  obtain ⟨a, cap, hv, _, _, hc⟩ := hrow.open reC_length
  obtain ⟨a', cap', hv', _, _, hc'⟩ := hrow'.open reC_length
  obtain ⟨rk, rset, rmn, rmx, rv⟩ := r
  obtain ⟨rk', rset', rmn', rmx', rv'⟩ := r'
  simp only at e1 e2 e3 e4 g1 g2 g3 g4 hv hv'
  subst e1 e2 e3 e4 hv hv'
  rw [g1, g2, g3, g4]
  obtain ⟨n, hn⟩ : ∃ n, rs.length = n := ⟨_, rfl⟩
  have hn' : rs'.length = n := by omega
  rw [hn] at hc hl ⊢
  rw [hn'] at hc' ⊢
  have Hk := Lib.hid hk
  have Hk' := Lib.hid hk'
  have HN := Lib.hid (And.intro hn (And.intro hn' (And.intro hlen hlen')))
  clear hk hk' hn hn' hlen hlen' hrow hrow' g1 g2 g3 g4
  have HB : Hid (Below w.heap.size w ((w.alloc (.cells (reC ⟨rk, rset, rmn, rmx, .slice a n cap⟩).toArray 28)).alloc (.cells (reC ⟨rk, rset, rmn, rmx, .slice a' n cap'⟩).toArray 28))) := Lib.hid (((Below.refl _ _).alloc (Nat.le_refl _) _).alloc (by simp) _)
  have HX1 : Hid (((w.alloc (.cells (reC ⟨rk, rset, rmn, rmx, .slice a n cap⟩).toArray 28)).alloc (.cells (reC ⟨rk, rset, rmn, rmx, .slice a' n cap'⟩).toArray 28)).heap[w.heap.size]? = some (.cells (reC ⟨rk, rset, rmn, rmx, .slice a n cap⟩).toArray 28 (0, 0))) := Lib.hid (by rw [Go.heap_alloc_old _ _ (by simp)]; exact Go.heap_alloc_new w _)
  have HX2 : Hid (((w.alloc (.cells (reC ⟨rk, rset, rmn, rmx, .slice a n cap⟩).toArray 28)).alloc (.cells (reC ⟨rk, rset, rmn, rmx, .slice a' n cap'⟩).toArray 28)).heap[w.heap.size + 1]? = some (.cells (reC ⟨rk, rset, rmn, rmx, .slice a' n cap'⟩).toArray 28 (0, 0))) := Lib.hid (by
    have := Go.heap_alloc_new (w.alloc (.cells (reC ⟨rk, rset, rmn, rmx, .slice a n cap⟩).toArray 28)) (.cells (reC ⟨rk, rset, rmn, rmx, .slice a' n cap'⟩).toArray 28)
    rw [World.size_alloc] at this; exact this)
  simp only [reV, reC] at HB HX1 HX2 ⊢
  go_enter Tryd.func8, Tryd.ntmps8
  repeat' (first | go_values | go_skip | go_guarded | go_step | go_upon)
  go_loopg [44] n (fun gk s44 wr => ∃ i : Nat, s44 = .int .i64 i ∧ i + gk = n ∧ Hid (Below w.heap.size w wr) ∧ Hid (Below (w.heap.size + 2) ((w.alloc (.cells (reC ⟨rk, rset, rmn, rmx, .slice a n cap⟩).toArray 28)).alloc (.cells (reC ⟨rk, rset, rmn, rmx, .slice a' n cap'⟩).toArray 28)) wr))
  case atStart => exact ⟨0, rfl, by omega, HB, Lib.hid (Below.refl _ _)⟩
  case round =>
    obtain ⟨i, rfl, hi, HW, HV⟩ := hrel
    by_cases hlt : i < n
    · have hlt' : (i : Int) < n := by omega
      rcases hc with hc | ⟨b, off, rfl, hb, hc⟩
      · omega
      rcases hc' with hc' | ⟨b', off', rfl, hb', hc'⟩
      · omega
      obtain ⟨x, hx⟩ : ∃ x, rs[i]? = some x := ⟨_, List.getElem?_eq_getElem (by rw [HN.out.1]; exact hlt)⟩
      obtain ⟨x', hx'⟩ : ∃ x, rs'[i]? = some x := ⟨_, List.getElem?_eq_getElem (by rw [HN.out.2.1]; exact hlt)⟩
      obtain ⟨u, hu⟩ : ∃ u, kids[i]? = some u := ⟨_, List.getElem?_eq_getElem (by have := HN.out; omega)⟩
      have hxa := Hk.out i x u hx hu
      have hxa' := Hk'.out i x' u hx' hu
      have D := (row_load hc hx).keep HW.out hb
      have D' := (row_load hc' hx').keep HW.out hb'
      have HXr1 : Hid (wr.heap[w.heap.size]? = some _) := Lib.hid ((HV.out.block _ (by omega)).trans HX1.out)
      have HXr2 : Hid (wr.heap[w.heap.size + 1]? = some _) := Lib.hid ((HV.out.block _ (by omega)).trans HX2.out)
      have hz1 : w.heap.size < wr.heap.size := (Array.getElem?_eq_some_iff.1 HXr1.out).1
      have hz2 : w.heap.size + 1 < wr.heap.size := (Array.getElem?_eq_some_iff.1 HXr2.out).1
      have hbw : b < wr.heap.size ∧ b' < wr.heap.size := by omega
      have q7 : ∀ nq : WB wr, nq.1.cell? ⟨w.heap.size, 7, none⟩ = some (.slice (some ⟨b, off, none⟩) n cap) := fun nq => by rw [nq.2.cell hz1, cell_of_row _ _ _ _ _ _ HXr1.out]; rfl
      have p7 : ∀ nq : WB wr, nq.1.cell? ⟨w.heap.size + 1, 7, none⟩ = some (.slice (some ⟨b', off', none⟩) n cap') := fun nq => by rw [nq.2.cell hz2, cell_of_row _ _ _ _ _ _ HXr2.out]; rfl
      have DD := fun nq : WB wr => D.keep nq.2 hbw.1
      have DD' := fun nq : WB wr => D'.keep nq.2 hbw.2
      have a0 := fun nq : WB wr => (DD nq).1
      have a1 := fun nq : WB wr => (DD nq).2.1
      have a2 := fun nq : WB wr => (DD nq).2.2.1
      have a3 := fun nq : WB wr => (DD nq).2.2.2.1
      have a4 := fun nq : WB wr => (DD nq).2.2.2.2.1
      have a5 := fun nq : WB wr => (DD nq).2.2.2.2.2.1
      have a6 := fun nq : WB wr => (DD nq).2.2.2.2.2.2.1
      have a7 := fun nq : WB wr => (DD nq).2.2.2.2.2.2.2
      have b0 := fun nq : WB wr => (DD' nq).1
      have b1 := fun nq : WB wr => (DD' nq).2.1
      have b2 := fun nq : WB wr => (DD' nq).2.2.1
      have b3 := fun nq : WB wr => (DD' nq).2.2.2.1
      have b4 := fun nq : WB wr => (DD' nq).2.2.2.2.1
      have b5 := fun nq : WB wr => (DD' nq).2.2.2.2.2.1
      have b6 := fun nq : WB wr => (DD' nq).2.2.2.2.2.2.1
      have b7 := fun nq : WB wr => (DD' nq).2.2.2.2.2.2.2
      have HIH : Hid (∀ nq : WB wr, Calls Tryd.prog 8 #[reV x, reV x'] nq.1 fun e w' => e = .returned (.bool true) ∧ Below nq.1.heap.size nq.1 w') := Lib.hid fun nq => IH x x' u nq.1 (hxa.keep (HW.out.trans (nq.2.mono HW.out.size))) (hxa'.keep (HW.out.trans (nq.2.mono HW.out.size)))
      simp only [reV, reC] at HIH
      clear IH D D' DD DD' hc hc' hxa hxa' HXr1 HXr2 HB HX1 HX2 hx hx' hu hz1 hz2 hbw hb hb' hlt
      repeat' (first | go_values | go_skip | go_guarded | go_step | go_upon)
      refine wp_region_wb (by kernel_rfl) (by kernel_rfl) wr (Below.refl _ _) ?_
      repeat (go_big_quiet_step (((go_at_call 8; exact calls_wb (HIH.out _)))))
      refine wpQuiet_nil ?_
      rintro _ ⟨nq, rfl⟩
      have hnq := nq.2
      have HW2 := Lib.hid (HW.out.trans (hnq.mono HW.out.size))
      have HV2 := Lib.hid (HV.out.trans (hnq.mono (Nat.le_trans (by simp) HV.out.size)))
      clear q7 p7 a0 a1 a2 a3 a4 a5 a6 a7 b0 b1 b2 b3 b4 b5 b6 b7
      repeat' (first | go_values | go_skip | go_guarded | go_step | go_upon)
      go_roundg (gk - 1)
      case rel => exact ⟨i + 1, by go_num, by omega, HW2, HV2⟩
      case measure => omega
    · have hlt' : ¬ (i : Int) < n := by omega
      clear IH hc hc' hlt
      repeat' (first | go_values | go_skip | go_guarded | go_step | go_upon)
      go_ret
      exact ⟨rfl, HW.out⟩
end
/-- a tree is like itself -/
theorem like_same : ∀ (h : Nat) (r r' : RN) (t : Re) (w : World), ReAt w h r t → ReAt w h r' t → Calls Tryd.prog 8 #[reV r, reV r'] w fun e w' => e = .returned (.bool true) ∧ Below w.heap.size w w'
  | 0, _, _, _, _, hr, _ => hr.elim
  | _ + 1, r, r', t, w, hr, hr' => like_next (like_same _) r r' t w hr hr'
end Go.Proofs.YtnbfifmnigeolaaDoor
namespace Go.Proofs.YtnbfifmnigeolaaDoor
open Go.RowKit Go.Lib
theorem rgt_ok {h : Nat} {t : Re} (hz : rgt h t = 0) : shp h t = true ∧ dep h t ≤ 30 := by
  unfold rgt at hz
  split at hz
  · cases hz
  · split at hz
    · cases hz
    · split at hz
      · rename_i h1 h2 h3
        exact ⟨h3, by omega⟩
      · cases hz
theorem prR_zero {h : Nat} {t : Re} (hz : (prR h t).2 = 0) : rgt h t = 0 ∧ (prR h t).1 = txt h t ∧ (txt h t).length ≤ 512 := by
  unfold prR at hz ⊢
  by_cases h1 : rgt h t = 0
  · rw [if_pos h1] at hz ⊢
    by_cases h2 : 512 < (txt h t).length
    · rw [if_pos h2] at hz; cases hz
    · rw [if_neg h2]; exact ⟨h1, rfl, by omega⟩
  · rw [if_neg h1] at hz; exact absurd hz h1
theorem prR_none {h : Nat} {t : Re} (hz : (prR h t).2 ≠ 0) : (prR h t).1 = [] := by
  unfold prR at hz ⊢
  by_cases h1 : rgt h t = 0
  · rw [if_pos h1] at hz ⊢
    by_cases h2 : 512 < (txt h t).length
    · rw [if_pos h2]
    · rw [if_neg h2] at hz; exact absurd rfl hz
  · rw [if_neg h1]
/-- what is read of a tree's own text -/
theorem pars_back {h : Nat} {t : Re} {r r2 : RN} {er at' : Int} {w w' : World} (hr : ReAt w h r t) (ha : allW h t) (hz : (prR h t).2 = 0) (hp : ParsP (prR h t).1 r2 er at' w') : er = 0 ∧ at' = 0 ∧ ∃ m, ReAt w' m r2 t := by
  obtain ⟨h1, h2, h3⟩ := prR_zero hz
  obtain ⟨h4, h5⟩ := rgt_ok h1
  have e := prsA_txt h4 ha h5 h3
  rw [h2] at hp
  unfold ParsP at hp
  rw [e] at hp
  obtain ⟨h6, ⟨h7, m, h8, _⟩ | ⟨_, _, m, w0, r0, h8, h9⟩⟩ := hp
  · exact ⟨h7, h6, m, h8⟩
  · rw [dep_eq h8 hr] at h9; omega
set_option maxRecDepth 100000 in
set_option maxHeartbeats 2000000 in
theorem law_RegexBack (w : World) (h : Nat) (r : RN) (t : Re) (hr : ReAt w h r t) (ha : allW h t) (hT : TT w) : Calls Tryd.prog 3 #[reV r] w fun e w' => e = .returned (.bool true) ∧ Below w.heap.size w w' := by
  have HB := Lib.hid (re_box w r)
  have hlt : w.heap.size < (w.alloc (.cells (reC r).toArray 28)).heap.size := by simp
  have HX : Hid (∀ W, Below (w.alloc (.cells (reC r).toArray 28)).heap.size (w.alloc (.cells (reC r).toArray 28)) W → Cells8 W w.heap.size 0 r) := Lib.hid fun W hW => by
    have hg := Go.heap_alloc_new w (.cells (reC r).toArray 28)
    refine ⟨?_, ?_, ?_, ?_, ?_, ?_, ?_, ?_⟩ <;> (rw [hW.cell hlt, cell_of_row _ _ _ _ _ _ hg]; rfl)
  have HP : Hid (∀ W, Below w.heap.size w W → Calls Tryd.prog _ #[reV r] W _) := Lib.hid fun W hW => regex_Print h r t W (hr.keep hW) ha (hT.keep hW)
  have HQ : Hid (∀ W, Below w.heap.size w W → Calls Tryd.prog _ #[reV r] W _) := Lib.hid fun W hW => ref_Print h r t W (hr.keep hW) ha (hT.keep hW)
  have HK : Hid (∀ r2 er at' w', (prR h t).2 = 0 → ParsP (prR h t).1 r2 er at' w' → er = 0 ∧ at' = 0 ∧ ∃ m, ReAt w' m r2 t) := Lib.hid fun r2 er at' w' => pars_back hr ha
  have HN : Hid ((prR h t).2 ≠ 0 → (prR h t).1 = []) := Lib.hid prR_none
  have HL : Hid (∀ m r2 W, Below w.heap.size w W → ReAt W m r2 t → Calls Tryd.prog 8 #[reV r, reV r2] W fun e w' => e = .returned (.bool true) ∧ Below W.heap.size W w') := Lib.hid fun m r2 W hW h2 =>
    like_same (max h m) r r2 t W ((hr.keep hW).lift (Nat.le_max_left _ _)) (h2.lift (Nat.le_max_right _ _))
  have hone := hr.one
  obtain ⟨R, hR⟩ : ∃ R, prR h t = R := ⟨_, rfl⟩
  rw [hR] at HP HQ HK HN
  obtain ⟨s, z⟩ := R
  dsimp only at HP HQ HK HN
  clear hr ha hT hlt hR
  simp only [reV, reC] at HB HX HP HQ HL ⊢
  go_enter Tryd.func3, Tryd.ntmps3
  repeat' (first | go_values | go_skip | go_guarded | go_step | go_upon)
  refine Calls.mono (HQ.out _ HB.out) ?_
  rintro _ w1 ⟨rfl, hb1⟩
  dsimp only
  obtain ⟨c0, c1, c2, c3, c4, c5, c6, c7⟩ := HX.out w1 hb1
  have HB1 := Lib.hid (HB.out.trans (hb1.mono HB.out.size))
  have Hb1 := Lib.hid hb1
  clear hb1 HB HQ
  repeat' (first | go_values | go_skip | go_guarded | go_step | go_upon)
  refine Calls.mono (HP.out w1 HB1.out) ?_
  rintro _ w2 ⟨rfl, hb2⟩
  dsimp only
  have HB2 := Lib.hid (HB1.out.trans (hb2.mono HB1.out.size))
  have Hb2 := Lib.hid (Hb1.out.trans (hb2.mono Hb1.out.size))
  clear hb2 HB1 Hb1 HP c0 c1 c2 c3 c4 c5 c6 c7
  by_cases hz : z = 0
  · subst hz
    clear HN
    repeat' (first | go_values | go_skip | go_guarded | go_step | go_upon)
    refine Calls.mono ((rx_parse ⟨s.toArray⟩ w2)) ?_
    rintro _ w3 ⟨r2, er, at', rfl, hb3, hp3⟩
    dsimp only
    obtain ⟨rfl, rfl, m, hm⟩ := HK.out _ _ _ _ rfl hp3
    have hone2 := hm.one
    have hk := (Below.refl w3.heap.size w3).alloc (Nat.le_refl _) (.cells (reC r2).toArray 28)
    have HB3 := Lib.hid ((HB2.out.trans (hb3.mono HB2.out.size)).trans (hk.mono (Nat.le_trans HB2.out.size hb3.size)))
    obtain ⟨c0, c1, c2, c3, c4, c5, c6, c7⟩ := HX.out (w3.alloc (.cells (reC r2).toArray 28)) ((Hb2.out.trans (hb3.mono Hb2.out.size)).trans (hk.mono (Nat.le_trans Hb2.out.size hb3.size)))
    have hl := HL.out m r2 _ HB3.out (hm.keep hk)
    have HB7 := Lib.hid (ReBox.new w3 r2)
    clear hb3 hp3 hm hk HK HX HL HB2 Hb2
    repeat' (go_not_at_region 6; first | (refine store_re (r := r2) hone2 _ _ rfl rfl rfl rfl ?_; dsimp only [Act.put]) | go_values | go_skip | go_guarded | go_step | go_upon)
    generalize w3.alloc (.cells (reC r2).toArray 28) = w4 at HB3 c0 c1 c2 c3 c4 c5 c6 c7 hl HB7 ⊢
    repeat' (first | (with_reducible refine load_box HB7.out _ rfl rfl ?_; dsimp only [Act.put]) | go_values | go_skip | go_guarded | go_step | go_upon)
    refine Calls.mono (hl) ?_
    rintro _ w5 ⟨rfl, hb5⟩
    dsimp only
    have HB5 := Lib.hid (HB3.out.trans (hb5.mono HB3.out.size))
    clear hb5 HB3
    repeat' (first | go_values | go_skip | go_guarded | go_step | go_upon)
    go_ret
    exact ⟨rfl, HB5.out⟩
  · have hs := HN.out hz
    subst hs
    have hz1 : (z != 0) = true := bne_iff_ne.2 hz
    clear HN HK HL HX hz
    repeat' (first | go_values | go_skip | go_guarded | go_step | go_upon)
    go_ret
    exact ⟨rfl, HB2.out⟩
end Go.Proofs.YtnbfifmnigeolaaDoor
