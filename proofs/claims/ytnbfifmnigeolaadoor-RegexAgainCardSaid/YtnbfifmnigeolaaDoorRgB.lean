/- Walk: RegexRights. No conditions. Walk: RegexPrints. Conditions: a tree that came in; the tables lie. Walk: a tree is like itself, wherever it lies (the document's Like). No conditions. Walk: the law RegexBack. Conditions: a tree that came in; the tables lie. Plain law: what is read has an expression's shape. No conditions; no program. Walk: the law RegexAgain. Conditions: a text of at most 2^47 bytes; the tables lie. -/
import Derived.Test.YtnbfifmnigeolaaDoorReRight
import Derived.Test.YtnbfifmnigeolaaDoorReOpen
import Derived.Test.YtnbfifmnigeolaaDoorTxtRef2
import Derived.Test.YtnbfifmnigeolaaDoorReDeep
import Derived.Test.YtnbfifmnigeolaaDoorRegion
import Derived.Test.YtnbfifmnigeolaaDoorSetRef
import Derived.Deep.LoopGhost
import Derived.Test.YtnbfifmnigeolaaDoorPrsE
import Derived.Test.YtnbfifmnigeolaaDoorInvA
import Derived.Test.YtnbfifmnigeolaaDoorCount
namespace Go.Proofs.YtnbfifmnigeolaaDoor
open Go.RowKit Go.Lib
set_option maxRecDepth 100000 in
set_option maxHeartbeats 1000000 in
theorem ref_Right (h : Nat) (r : RN) (t : Re) (w : World) (hr : ReAt w h r t) : Calls Tryd.prog 11 #[reV r] w fun e w' => e = .returned (.int .i64 (rgt h t)) ∧ Below w.heap.size w w' := by
  have HB := Lib.hid (re_box w r)
  have HD : Calls Tryd.prog 21 #[reV r, .int .i64 31] _ _ := ref_deep h r t 31 _ (by decide) (by decide) (hr.keep HB.out)
  have HC : Hid (∀ W, Below w.heap.size w W → Calls Tryd.prog 22 #[reV r, .int .i64 513] W fun e w' => e = .returned (.int .i64 (min (cnt h t) 513 : Nat)) ∧ Below W.heap.size W w') := Lib.hid (fun W hW => ref_nodes h r t 513 W (by decide) (by decide) (hr.keep hW))
  have HS : Hid (∀ W, Below w.heap.size w W → Calls Tryd.prog 23 #[reV r] W fun e w' => e = .returned (.bool (shp h t)) ∧ Below W.heap.size W w') := Lib.hid (fun W hW => ref_every h r t W (hr.keep hW))
  have hone := hr.one
  have HR := Lib.hid (@rgt_of h t)
  obtain ⟨R, hR⟩ : ∃ R, rgt h t = R := ⟨_, rfl⟩
  rw [hR] at HR ⊢
  obtain ⟨d, hd⟩ : ∃ d : Nat, min (dep h t) 31 = d := ⟨_, rfl⟩
  obtain ⟨c, hc⟩ : ∃ c : Nat, min (cnt h t) 513 = c := ⟨_, rfl⟩
  obtain ⟨x, hx⟩ : ∃ x, shp h t = x := ⟨_, rfl⟩
  rw [hd] at HD
  rw [hc] at HC
  rw [hx] at HS HR
  have Hd := Lib.hid hd
  have Hc := Lib.hid hc
  clear hd hR hc hx
  have cells : ∀ W, Below (w.alloc (.cells (reC r).toArray 28)).heap.size (w.alloc (.cells (reC r).toArray 28)) W → Cells8 W w.heap.size 0 r := fun W hW => by
    have hlt : w.heap.size < (w.alloc (.cells (reC r).toArray 28)).heap.size := by simp
    have hg := Go.heap_alloc_new w (.cells (reC r).toArray 28)
    refine ⟨?_, ?_, ?_, ?_, ?_, ?_, ?_, ?_⟩ <;> (rw [hW.cell hlt, cell_of_row _ _ _ _ _ _ hg]; rfl)
  have HX := Lib.hid cells
  clear cells
  simp only [reV, reC] at HD HB HC HS HX ⊢
  go_enter Tryd.func11, Tryd.ntmps11
  repeat' (first | go_values | go_skip | go_guarded | go_step | go_upon)
  refine Calls.mono (HD) ?_
  rintro _ w1 ⟨rfl, hb1⟩
  dsimp only
  have H1 := Lib.hid (HB.out.trans (hb1.mono HB.out.size))
  have Hb1 := Lib.hid hb1
  obtain ⟨c0, c1, c2, c3, c4, c5, c6, c7⟩ := HX.out w1 hb1
  clear hb1 HB HD
  by_cases hd5 : 30 < d
  · have hd5' : (30 : Int) < d := by omega
    have Hd5 := Lib.hid hd5
    clear HX hd5
    repeat' (first | go_values | go_skip | go_guarded | go_step | go_upon)
    go_ret
    refine ⟨?_, H1.out⟩
    have := HR.out 2 (fun _ => rfl) (fun _ _ => rfl) (fun h => absurd (by have := Hd.out; have := Hd5.out; omega) h)
    rw [this]; rfl
  have hd5' : ¬ (30 : Int) < d := by omega
  have HC1 := Lib.hid (HC.out w1 H1.out)
  have Hnd : Hid (¬ 30 < dep h t) := Lib.hid (by have := Hd.out; omega)
  clear HC
  repeat' (first | go_values | go_skip | go_guarded | go_step | go_upon)
  refine Calls.mono (HC1.out) ?_
  rintro _ w2 ⟨rfl, hb2⟩
  dsimp only
  have H2 := Lib.hid (H1.out.trans (hb2.mono H1.out.size))
  obtain ⟨d0, d1, d2, d3, d4, d5, d6, d7⟩ := HX.out w2 (Hb1.out.trans (hb2.mono Hb1.out.size))
  clear hb2 HX HC1 Hb1 c0 c1 c2 c3 c4 c5 c6 c7
  by_cases hc5 : 512 < c
  · have hc5' : (512 : Int) < c := by omega
    have H5 := Lib.hid hc5
    clear hc5 HS
    repeat' (first | go_values | go_skip | go_guarded | go_step | go_upon)
    go_ret
    refine ⟨?_, H2.out⟩
    have := HR.out 2 (fun _ => rfl) (fun _ _ => rfl) (fun _ h => absurd (by have := Hc.out; have := H5.out; omega) h)
    rw [this]; rfl
  · have hc5' : ¬ (512 : Int) < c := by omega
    have H5 := Lib.hid hc5
    have HS2 := Lib.hid (HS.out w2 H2.out)
    clear hc5 HS
    repeat' (first | go_values | go_skip | go_guarded | go_step | go_upon)
    refine Calls.mono (HS2.out) ?_
    rintro _ w3 ⟨rfl, hb3⟩
    dsimp only
    clear HS2
    have HE := HR.out (if x then 0 else 61) (fun h => absurd h Hnd.out) (fun _ h => absurd h (by have := Hc.out; have := H5.out; omega)) (fun _ _ => rfl)
    cases x with
    | true =>
      repeat' (first | go_values | go_skip | go_guarded | go_step | go_upon)
      go_ret
      exact ⟨by rw [HE]; rfl, H2.out.trans (hb3.mono H2.out.size)⟩
    | false =>
      repeat' (first | go_values | go_skip | go_guarded | go_step | go_upon)
      go_ret
      exact ⟨by rw [HE]; rfl, H2.out.trans (hb3.mono H2.out.size)⟩
end Go.Proofs.YtnbfifmnigeolaaDoor
namespace Go.Proofs.YtnbfifmnigeolaaDoor
open Go.RowKit Go.Lib
/-- what Print tells -/
noncomputable def prR (h : Nat) (t : Re) : List UInt8 × Int := if rgt h t = 0 then (if 512 < (txt h t).length then ([], 2) else (txt h t, 0)) else ([], rgt h t)
theorem rgt_zero {h : Nat} {t : Re} (hz : rgt h t = 0) (ha : allW h t) : Gd h t := by
  unfold rgt at hz
  split at hz
  · cases hz
  · split at hz
    · cases hz
    · split at hz
      · rename_i h1 h2 h3
        exact ⟨h3, by omega, ha⟩
      · cases hz
set_option maxRecDepth 100000 in
set_option maxHeartbeats 1000000 in
theorem regex_Print (h : Nat) (r : RN) (t : Re) (w : World) (hr : ReAt w h r t) (ha : allW h t) (hT : TT w) : Calls Tryd.prog 6 #[reV r] w fun e w' => e = .returned (.tuple #[.string ⟨(prR h t).1.toArray⟩, .int .i64 (prR h t).2]) ∧ Below w.heap.size w w' := by
  have HB := Lib.hid (re_box w r)
  have hlt : w.heap.size < (w.alloc (.cells (reC r).toArray 28)).heap.size := by simp
  have HX : Hid (∀ W, Below (w.alloc (.cells (reC r).toArray 28)).heap.size (w.alloc (.cells (reC r).toArray 28)) W → Cells8 W w.heap.size 0 r) := Lib.hid fun W hW => by
    have hg := Go.heap_alloc_new w (.cells (reC r).toArray 28)
    refine ⟨?_, ?_, ?_, ?_, ?_, ?_, ?_, ?_⟩ <;> (rw [hW.cell hlt, cell_of_row _ _ _ _ _ _ hg]; rfl)
  have hR := regex_Right h r t _ (hr.keep HB.out)
  have HTx : Hid (rgt h t = 0 → ∀ W, Below w.heap.size w W → Calls Tryd.prog _ #[reV r] W fun e w' => e = .returned (.string ⟨(txt h t).toArray⟩) ∧ Below W.heap.size W w') := Lib.hid fun hz W hW => regex_text h r t W (hr.keep hW) (rgt_zero hz ha) (hT.keep hW)
  have HLn : Hid (rgt h t = 0 → (txt h t).length ≤ 2048000) := Lib.hid fun hz => (rgt_zero hz ha).len
  have hone := hr.one
  have HP : Hid ((rgt h t ≠ 0 → prR h t = ([], rgt h t)) ∧ (rgt h t = 0 → 512 < (txt h t).length → prR h t = ([], 2)) ∧ (rgt h t = 0 → ¬ 512 < (txt h t).length → prR h t = (txt h t, 0))) := Lib.hid ⟨fun h1 => by unfold prR; rw [if_neg h1], fun h1 h2 => by unfold prR; rw [if_pos h1, if_pos h2], fun h1 h2 => by unfold prR; rw [if_pos h1, if_neg h2]⟩
  generalize rgt h t = z at hR HTx HLn HP
  generalize txt h t = U at HTx HLn HP
  generalize prR h t = R at HP ⊢
  clear hr ha hT hlt
  simp only [reV, reC] at hR HB HX HTx ⊢
  by_cases hz : z = 0
  · have hTx := HTx.out hz
    have hl := HLn.out hz
    have HP2 := Lib.hid (HP.out.2.1 hz)
    have HP3 := Lib.hid (HP.out.2.2 hz)
    subst hz
    clear HTx HLn HP
    have HTx := Lib.hid hTx
    clear hTx
    by_cases h5 : 512 < U.length
    · obtain rfl := HP2.out h5
      have h5' : (512 : Int) < U.length := by omega
      clear HP2 HP3
      go_enter Tryd.func6, Tryd.ntmps6
      repeat' (first | go_values | go_skip | go_guarded | go_step | go_upon)
      refine Calls.mono (hR) ?_
      rintro _ w1 ⟨rfl, hb1⟩
      dsimp only
      obtain ⟨c0, c1, c2, c3, c4, c5, c6, c7⟩ := HX.out w1 hb1
      have HB1 := Lib.hid (HB.out.trans (hb1.mono HB.out.size))
      clear hb1 HX HB hR
      repeat' (first | go_values | go_skip | go_guarded | go_step | go_upon)
      refine Calls.mono (HTx.out w1 HB1.out) ?_
      rintro _ w2 ⟨rfl, hb2⟩
      dsimp only
      have HB2 := Lib.hid (HB1.out.trans (hb2.mono HB1.out.size))
      clear hb2 HB1 HTx c0 c1 c2 c3 c4 c5 c6 c7
      repeat' (first | go_values | go_skip | go_guarded | go_step | go_upon)
      go_ret2
      exact ⟨rfl, HB2.out⟩
    · obtain rfl := HP3.out h5
      have h5' : ¬ (512 : Int) < U.length := by omega
      clear HP2 HP3
      go_enter Tryd.func6, Tryd.ntmps6
      repeat' (first | go_values | go_skip | go_guarded | go_step | go_upon)
      refine Calls.mono (hR) ?_
      rintro _ w1 ⟨rfl, hb1⟩
      dsimp only
      obtain ⟨c0, c1, c2, c3, c4, c5, c6, c7⟩ := HX.out w1 hb1
      have HB1 := Lib.hid (HB.out.trans (hb1.mono HB.out.size))
      clear hb1 HX HB hR
      repeat' (first | go_values | go_skip | go_guarded | go_step | go_upon)
      refine Calls.mono (HTx.out w1 HB1.out) ?_
      rintro _ w2 ⟨rfl, hb2⟩
      dsimp only
      have HB2 := Lib.hid (HB1.out.trans (hb2.mono HB1.out.size))
      clear hb2 HB1 HTx c0 c1 c2 c3 c4 c5 c6 c7
      repeat' (first | go_values | go_skip | go_guarded | go_step | go_upon)
      go_ret2
      exact ⟨rfl, HB2.out⟩
  · obtain rfl := HP.out.1 hz
    have hzb : (z != 0) = true := bne_iff_ne.2 hz
    clear HTx HLn HP hz
    go_enter Tryd.func6, Tryd.ntmps6
    repeat' (first | go_values | go_skip | go_guarded | go_step | go_upon)
    refine Calls.mono (hR) ?_
    rintro _ w1 ⟨rfl, hb1⟩
    dsimp only
    have HB1 := Lib.hid (HB.out.trans (hb1.mono HB.out.size))
    clear hb1 HX HB hR
    repeat' (first | go_values | go_skip | go_guarded | go_step | go_upon)
    go_ret2
    exact ⟨rfl, HB1.out⟩
set_option maxRecDepth 100000 in
set_option maxHeartbeats 1000000 in
theorem ref_Print (h : Nat) (r : RN) (t : Re) (w : World) (hr : ReAt w h r t) (ha : allW h t) (hT : TT w) : Calls Tryd.prog 5 #[reV r] w fun e w' => e = .returned (.tuple #[.string ⟨(prR h t).1.toArray⟩, .int .i64 (prR h t).2]) ∧ Below w.heap.size w w' := by
  have HB := Lib.hid (re_box w r)
  have hlt : w.heap.size < (w.alloc (.cells (reC r).toArray 28)).heap.size := by simp
  have HX : Hid (∀ W, Below (w.alloc (.cells (reC r).toArray 28)).heap.size (w.alloc (.cells (reC r).toArray 28)) W → Cells8 W w.heap.size 0 r) := Lib.hid fun W hW => by
    have hg := Go.heap_alloc_new w (.cells (reC r).toArray 28)
    refine ⟨?_, ?_, ?_, ?_, ?_, ?_, ?_, ?_⟩ <;> (rw [hW.cell hlt, cell_of_row _ _ _ _ _ _ hg]; rfl)
  have hR := ref_Right h r t _ (hr.keep HB.out)
  have HTx : Hid (rgt h t = 0 → ∀ W, Below w.heap.size w W → Calls Tryd.prog _ #[reV r] W fun e w' => e = .returned (.string ⟨(txt h t).toArray⟩) ∧ Below W.heap.size W w') := Lib.hid fun hz W hW => ref_Text h r t W (hr.keep hW) (rgt_zero hz ha) (hT.keep hW)
  have HLn : Hid (rgt h t = 0 → (txt h t).length ≤ 2048000) := Lib.hid fun hz => (rgt_zero hz ha).len
  have hone := hr.one
  have HP : Hid ((rgt h t ≠ 0 → prR h t = ([], rgt h t)) ∧ (rgt h t = 0 → 512 < (txt h t).length → prR h t = ([], 2)) ∧ (rgt h t = 0 → ¬ 512 < (txt h t).length → prR h t = (txt h t, 0))) := Lib.hid ⟨fun h1 => by unfold prR; rw [if_neg h1], fun h1 h2 => by unfold prR; rw [if_pos h1, if_pos h2], fun h1 h2 => by unfold prR; rw [if_pos h1, if_neg h2]⟩
  generalize rgt h t = z at hR HTx HLn HP
  generalize txt h t = U at HTx HLn HP
  generalize prR h t = R at HP ⊢
  clear hr ha hT hlt
  simp only [reV, reC] at hR HB HX HTx ⊢
  by_cases hz : z = 0
  · have hTx := HTx.out hz
    have hl := HLn.out hz
    have HP2 := Lib.hid (HP.out.2.1 hz)
    have HP3 := Lib.hid (HP.out.2.2 hz)
    subst hz
    clear HTx HLn HP
    have HTx := Lib.hid hTx
    clear hTx
    by_cases h5 : 512 < U.length
    · obtain rfl := HP2.out h5
      have h5' : (512 : Int) < U.length := by omega
      clear HP2 HP3
      go_enter Tryd.func5, Tryd.ntmps5
      repeat' (first | go_values | go_skip | go_guarded | go_step | go_upon)
      refine Calls.mono (hR) ?_
      rintro _ w1 ⟨rfl, hb1⟩
      dsimp only
      obtain ⟨c0, c1, c2, c3, c4, c5, c6, c7⟩ := HX.out w1 hb1
      have HB1 := Lib.hid (HB.out.trans (hb1.mono HB.out.size))
      clear hb1 HX HB hR
      repeat' (first | go_values | go_skip | go_guarded | go_step | go_upon)
      refine Calls.mono (HTx.out w1 HB1.out) ?_
      rintro _ w2 ⟨rfl, hb2⟩
      dsimp only
      have HB2 := Lib.hid (HB1.out.trans (hb2.mono HB1.out.size))
      clear hb2 HB1 HTx c0 c1 c2 c3 c4 c5 c6 c7
      repeat' (first | go_values | go_skip | go_guarded | go_step | go_upon)
      go_ret2
      exact ⟨rfl, HB2.out⟩
    · obtain rfl := HP3.out h5
      have h5' : ¬ (512 : Int) < U.length := by omega
      clear HP2 HP3
      go_enter Tryd.func5, Tryd.ntmps5
      repeat' (first | go_values | go_skip | go_guarded | go_step | go_upon)
      refine Calls.mono (hR) ?_
      rintro _ w1 ⟨rfl, hb1⟩
      dsimp only
      obtain ⟨c0, c1, c2, c3, c4, c5, c6, c7⟩ := HX.out w1 hb1
      have HB1 := Lib.hid (HB.out.trans (hb1.mono HB.out.size))
      clear hb1 HX HB hR
      repeat' (first | go_values | go_skip | go_guarded | go_step | go_upon)
      refine Calls.mono (HTx.out w1 HB1.out) ?_
      rintro _ w2 ⟨rfl, hb2⟩
      dsimp only
      have HB2 := Lib.hid (HB1.out.trans (hb2.mono HB1.out.size))
      clear hb2 HB1 HTx c0 c1 c2 c3 c4 c5 c6 c7
      repeat' (first | go_values | go_skip | go_guarded | go_step | go_upon)
      go_ret2
      exact ⟨rfl, HB2.out⟩
  · obtain rfl := HP.out.1 hz
    have hzb : (z != 0) = true := bne_iff_ne.2 hz
    clear HTx HLn HP hz
    go_enter Tryd.func5, Tryd.ntmps5
    repeat' (first | go_values | go_skip | go_guarded | go_step | go_upon)
    refine Calls.mono (hR) ?_
    rintro _ w1 ⟨rfl, hb1⟩
    dsimp only
    have HB1 := Lib.hid (HB.out.trans (hb1.mono HB.out.size))
    clear hb1 HX HB hR
    repeat' (first | go_values | go_skip | go_guarded | go_step | go_upon)
    go_ret2
    exact ⟨rfl, HB1.out⟩
end Go.Proofs.YtnbfifmnigeolaaDoor
namespace Go.Proofs.YtnbfifmnigeolaaDoor
open Go.RowKit Go.Lib
section
variable {h : Nat} (IH : ∀ (r r' : RN) (t : Re) (w : World), ReAt w h r t → ReAt w h r' t → Calls Tryd.prog 8 #[reV r, reV r'] w fun e w' => e = .returned (.bool true) ∧ Below w.heap.size w w')
include IH
set_option maxRecDepth 100000 in
set_option maxHeartbeats 2000000 in
theorem like_next (r r' : RN) (t : Re) (w : World) (hr : ReAt w (h + 1) r t) (hr' : ReAt w (h + 1) r' t) :
    Calls Tryd.prog 8 #[reV r, reV r'] w fun e w' => e = .returned (.bool true) ∧ Below w.heap.size w w' := by
  obtain ⟨k, s, mn, mx, kids⟩ := t
  obtain ⟨⟨e1, e2, e3, e4⟩, _, _, rs, hrow, hlen, hk⟩ := hr
  obtain ⟨⟨g1, g2, g3, g4⟩, _, _, rs', hrow', hlen', hk'⟩ := hr'
  have hl := hrow.lenOk
  obtain ⟨a, cap, hv, _, _, hc⟩ := hrow.open reC_length
  obtain ⟨a', cap', hv', _, _, hc'⟩ := hrow'.open reC_length
  obtain ⟨rk, rset, rmn, rmx, rv⟩ := r
  obtain ⟨rk', rset', rmn', rmx', rv'⟩ := r'
  simp only at e1 e2 e3 e4 g1 g2 g3 g4 hv hv'
  subst e1 e2 e3 e4 hv hv'
  rw [g1, g2, g3, g4]
  obtain ⟨n, hn⟩ : ∃ n, rs.length = n := ⟨_, rfl⟩
  have hn' : rs'.length = n := by omega
  rw [hn] at hc hl ⊢
  rw [hn'] at hc' ⊢
  have Hk := Lib.hid hk
  have Hk' := Lib.hid hk'
  have HN := Lib.hid (And.intro hn (And.intro hn' (And.intro hlen hlen')))
  clear hk hk' hn hn' hlen hlen' hrow hrow' g1 g2 g3 g4
  have HB : Hid (Below w.heap.size w ((w.alloc (.cells (reC ⟨rk, rset, rmn, rmx, .slice a n cap⟩).toArray 28)).alloc (.cells (reC ⟨rk, rset, rmn, rmx, .slice a' n cap'⟩).toArray 28))) := Lib.hid (((Below.refl _ _).alloc (Nat.le_refl _) _).alloc (by simp) _)
  have HX1 : Hid (((w.alloc (.cells (reC ⟨rk, rset, rmn, rmx, .slice a n cap⟩).toArray 28)).alloc (.cells (reC ⟨rk, rset, rmn, rmx, .slice a' n cap'⟩).toArray 28)).heap[w.heap.size]? = some (.cells (reC ⟨rk, rset, rmn, rmx, .slice a n cap⟩).toArray 28 (0, 0))) := Lib.hid (by rw [Go.heap_alloc_old _ _ (by simp)]; exact Go.heap_alloc_new w _)
  have HX2 : Hid (((w.alloc (.cells (reC ⟨rk, rset, rmn, rmx, .slice a n cap⟩).toArray 28)).alloc (.cells (reC ⟨rk, rset, rmn, rmx, .slice a' n cap'⟩).toArray 28)).heap[w.heap.size + 1]? = some (.cells (reC ⟨rk, rset, rmn, rmx, .slice a' n cap'⟩).toArray 28 (0, 0))) := Lib.hid (by
    have := Go.heap_alloc_new (w.alloc (.cells (reC ⟨rk, rset, rmn, rmx, .slice a n cap⟩).toArray 28)) (.cells (reC ⟨rk, rset, rmn, rmx, .slice a' n cap'⟩).toArray 28)
    rw [World.size_alloc] at this; exact this)
  simp only [reV, reC] at HB HX1 HX2 ⊢
  go_enter Tryd.func8, Tryd.ntmps8
  repeat' (first | go_values | go_skip | go_guarded | go_step | go_upon)
  go_loopg [44] n (fun gk s44 wr => ∃ i : Nat, s44 = .int .i64 i ∧ i + gk = n ∧ Hid (Below w.heap.size w wr) ∧ Hid (Below (w.heap.size + 2) ((w.alloc (.cells (reC ⟨rk, rset, rmn, rmx, .slice a n cap⟩).toArray 28)).alloc (.cells (reC ⟨rk, rset, rmn, rmx, .slice a' n cap'⟩).toArray 28)) wr))
  case atStart => exact ⟨0, rfl, by omega, HB, Lib.hid (Below.refl _ _)⟩
  case round =>
    obtain ⟨i, rfl, hi, HW, HV⟩ := hrel
    by_cases hlt : i < n
    · have hlt' : (i : Int) < n := by omega
      rcases hc with hc | ⟨b, off, rfl, hb, hc⟩
      · omega
      rcases hc' with hc' | ⟨b', off', rfl, hb', hc'⟩
      · omega
      obtain ⟨x, hx⟩ : ∃ x, rs[i]? = some x := ⟨_, List.getElem?_eq_getElem (by rw [HN.out.1]; exact hlt)⟩
      obtain ⟨x', hx'⟩ : ∃ x, rs'[i]? = some x := ⟨_, List.getElem?_eq_getElem (by rw [HN.out.2.1]; exact hlt)⟩
      obtain ⟨u, hu⟩ : ∃ u, kids[i]? = some u := ⟨_, List.getElem?_eq_getElem (by have := HN.out; omega)⟩
      have hxa := Hk.out i x u hx hu
      have hxa' := Hk'.out i x' u hx' hu
      have D := (row_load hc hx).keep HW.out hb
      have D' := (row_load hc' hx').keep HW.out hb'
      have HXr1 : Hid (wr.heap[w.heap.size]? = some _) := Lib.hid ((HV.out.block _ (by omega)).trans HX1.out)
      have HXr2 : Hid (wr.heap[w.heap.size + 1]? = some _) := Lib.hid ((HV.out.block _ (by omega)).trans HX2.out)
      have hz1 : w.heap.size < wr.heap.size := (Array.getElem?_eq_some_iff.1 HXr1.out).1
      have hz2 : w.heap.size + 1 < wr.heap.size := (Array.getElem?_eq_some_iff.1 HXr2.out).1
      have hbw : b < wr.heap.size ∧ b' < wr.heap.size := by omega
      have q7 : ∀ nq : WB wr, nq.1.cell? ⟨w.heap.size, 7, none⟩ = some (.slice (some ⟨b, off, none⟩) n cap) := fun nq => by rw [nq.2.cell hz1, cell_of_row _ _ _ _ _ _ HXr1.out]; rfl
      have p7 : ∀ nq : WB wr, nq.1.cell? ⟨w.heap.size + 1, 7, none⟩ = some (.slice (some ⟨b', off', none⟩) n cap') := fun nq => by rw [nq.2.cell hz2, cell_of_row _ _ _ _ _ _ HXr2.out]; rfl
      have DD := fun nq : WB wr => D.keep nq.2 hbw.1
      have DD' := fun nq : WB wr => D'.keep nq.2 hbw.2
      have a0 := fun nq : WB wr => (DD nq).1
      have a1 := fun nq : WB wr => (DD nq).2.1
      have a2 := fun nq : WB wr => (DD nq).2.2.1
      have a3 := fun nq : WB wr => (DD nq).2.2.2.1
      have a4 := fun nq : WB wr => (DD nq).2.2.2.2.1
      have a5 := fun nq : WB wr => (DD nq).2.2.2.2.2.1
      have a6 := fun nq : WB wr => (DD nq).2.2.2.2.2.2.1
      have a7 := fun nq : WB wr => (DD nq).2.2.2.2.2.2.2
      have b0 := fun nq : WB wr => (DD' nq).1
      have b1 := fun nq : WB wr => (DD' nq).2.1
      have b2 := fun nq : WB wr => (DD' nq).2.2.1
      have b3 := fun nq : WB wr => (DD' nq).2.2.2.1
      have b4 := fun nq : WB wr => (DD' nq).2.2.2.2.1
      have b5 := fun nq : WB wr => (DD' nq).2.2.2.2.2.1
      have b6 := fun nq : WB wr => (DD' nq).2.2.2.2.2.2.1
      have b7 := fun nq : WB wr => (DD' nq).2.2.2.2.2.2.2
      have HIH : Hid (∀ nq : WB wr, Calls Tryd.prog 8 #[reV x, reV x'] nq.1 fun e w' => e = .returned (.bool true) ∧ Below nq.1.heap.size nq.1 w') := Lib.hid fun nq => IH x x' u nq.1 (hxa.keep (HW.out.trans (nq.2.mono HW.out.size))) (hxa'.keep (HW.out.trans (nq.2.mono HW.out.size)))
      simp only [reV, reC] at HIH
      clear IH D D' DD DD' hc hc' hxa hxa' HXr1 HXr2 HB HX1 HX2 hx hx' hu hz1 hz2 hbw hb hb' hlt
      repeat' (first | go_values | go_skip | go_guarded | go_step | go_upon)
      refine wp_region_wb (by kernel_rfl) (by kernel_rfl) wr (Below.refl _ _) ?_
      repeat (go_big_quiet_step (((go_at_call 8; exact calls_wb (HIH.out _)))))
      refine wpQuiet_nil ?_
      rintro _ ⟨nq, rfl⟩
      have hnq := nq.2
      have HW2 := Lib.hid (HW.out.trans (hnq.mono HW.out.size))
      have HV2 := Lib.hid (HV.out.trans (hnq.mono (Nat.le_trans (by simp) HV.out.size)))
      clear q7 p7 a0 a1 a2 a3 a4 a5 a6 a7 b0 b1 b2 b3 b4 b5 b6 b7
      repeat' (first | go_values | go_skip | go_guarded | go_step | go_upon)
      go_roundg (gk - 1)
      case rel => exact ⟨i + 1, by go_num, by omega, HW2, HV2⟩
      case measure => omega
    · have hlt' : ¬ (i : Int) < n := by omega
      clear IH hc hc' hlt
      repeat' (first | go_values | go_skip | go_guarded | go_step | go_upon)
      go_ret
      exact ⟨rfl, HW.out⟩
end
/-- a tree is like itself -/
theorem like_same : ∀ (h : Nat) (r r' : RN) (t : Re) (w : World), ReAt w h r t → ReAt w h r' t → Calls Tryd.prog 8 #[reV r, reV r'] w fun e w' => e = .returned (.bool true) ∧ Below w.heap.size w w'
  | 0, _, _, _, _, hr, _ => hr.elim
  | _ + 1, r, r', t, w, hr, hr' => like_next (like_same _) r r' t w hr hr'
end Go.Proofs.YtnbfifmnigeolaaDoor
namespace Go.Proofs.YtnbfifmnigeolaaDoor
open Go.RowKit Go.Lib
theorem rgt_ok {h : Nat} {t : Re} (hz : rgt h t = 0) : shp h t = true ∧ dep h t ≤ 30 := by
  unfold rgt at hz
  split at hz
  · cases hz
  · split at hz
    · cases hz
    · split at hz
      · rename_i h1 h2 h3
        exact ⟨h3, by omega⟩
      · cases hz
theorem prR_zero {h : Nat} {t : Re} (hz : (prR h t).2 = 0) : rgt h t = 0 ∧ (prR h t).1 = txt h t ∧ (txt h t).length ≤ 512 := by
  unfold prR at hz ⊢
  by_cases h1 : rgt h t = 0
  · rw [if_pos h1] at hz ⊢
    by_cases h2 : 512 < (txt h t).length
    · rw [if_pos h2] at hz; cases hz
    · rw [if_neg h2]; exact ⟨h1, rfl, by omega⟩
  · rw [if_neg h1] at hz; exact absurd hz h1
theorem prR_none {h : Nat} {t : Re} (hz : (prR h t).2 ≠ 0) : (prR h t).1 = [] := by
  unfold prR at hz ⊢
  by_cases h1 : rgt h t = 0
  · rw [if_pos h1] at hz ⊢
    by_cases h2 : 512 < (txt h t).length
    · rw [if_pos h2]
    · rw [if_neg h2] at hz; exact absurd rfl hz
  · rw [if_neg h1]
/-- what is read of a tree's own text -/
theorem pars_back {h : Nat} {t : Re} {r r2 : RN} {er at' : Int} {w w' : World} (hr : ReAt w h r t) (ha : allW h t) (hz : (prR h t).2 = 0) (hp : ParsP (prR h t).1 r2 er at' w') : er = 0 ∧ at' = 0 ∧ ∃ m, ReAt w' m r2 t := by
  obtain ⟨h1, h2, h3⟩ := prR_zero hz
  obtain ⟨h4, h5⟩ := rgt_ok h1
  have e := prsA_txt h4 ha h5 h3
  rw [h2] at hp
  unfold ParsP at hp
  rw [e] at hp
  obtain ⟨h6, ⟨h7, m, h8, _⟩ | ⟨_, _, m, w0, r0, h8, h9⟩⟩ := hp
  · exact ⟨h7, h6, m, h8⟩
  · rw [dep_eq h8 hr] at h9; omega
set_option maxRecDepth 100000 in
set_option maxHeartbeats 2000000 in
theorem law_RegexBack (w : World) (h : Nat) (r : RN) (t : Re) (hr : ReAt w h r t) (ha : allW h t) (hT : TT w) : Calls Tryd.prog 3 #[reV r] w fun e w' => e = .returned (.bool true) ∧ Below w.heap.size w w' := by
  have HB := Lib.hid (re_box w r)
  have hlt : w.heap.size < (w.alloc (.cells (reC r).toArray 28)).heap.size := by simp
  have HX : Hid (∀ W, Below (w.alloc (.cells (reC r).toArray 28)).heap.size (w.alloc (.cells (reC r).toArray 28)) W → Cells8 W w.heap.size 0 r) := Lib.hid fun W hW => by
    have hg := Go.heap_alloc_new w (.cells (reC r).toArray 28)
    refine ⟨?_, ?_, ?_, ?_, ?_, ?_, ?_, ?_⟩ <;> (rw [hW.cell hlt, cell_of_row _ _ _ _ _ _ hg]; rfl)
  have HP : Hid (∀ W, Below w.heap.size w W → Calls Tryd.prog _ #[reV r] W _) := Lib.hid fun W hW => regex_Print h r t W (hr.keep hW) ha (hT.keep hW)
  have HQ : Hid (∀ W, Below w.heap.size w W → Calls Tryd.prog _ #[reV r] W _) := Lib.hid fun W hW => ref_Print h r t W (hr.keep hW) ha (hT.keep hW)
  have HK : Hid (∀ r2 er at' w', (prR h t).2 = 0 → ParsP (prR h t).1 r2 er at' w' → er = 0 ∧ at' = 0 ∧ ∃ m, ReAt w' m r2 t) := Lib.hid fun r2 er at' w' => pars_back hr ha
  have HN : Hid ((prR h t).2 ≠ 0 → (prR h t).1 = []) := Lib.hid prR_none
  have HL : Hid (∀ m r2 W, Below w.heap.size w W → ReAt W m r2 t → Calls Tryd.prog 8 #[reV r, reV r2] W fun e w' => e = .returned (.bool true) ∧ Below W.heap.size W w') := Lib.hid fun m r2 W hW h2 =>
    like_same (max h m) r r2 t W ((hr.keep hW).lift (Nat.le_max_left _ _)) (h2.lift (Nat.le_max_right _ _))
  have hone := hr.one
  obtain ⟨R, hR⟩ : ∃ R, prR h t = R := ⟨_, rfl⟩
  rw [hR] at HP HQ HK HN
  obtain ⟨s, z⟩ := R
  dsimp only at HP HQ HK HN
  clear hr ha hT hlt hR
  simp only [reV, reC] at HB HX HP HQ HL ⊢
  go_enter Tryd.func3, Tryd.ntmps3
  repeat' (first | go_values | go_skip | go_guarded | go_step | go_upon)
  refine Calls.mono (HQ.out _ HB.out) ?_
  rintro _ w1 ⟨rfl, hb1⟩
  dsimp only
  obtain ⟨c0, c1, c2, c3, c4, c5, c6, c7⟩ := HX.out w1 hb1
  have HB1 := Lib.hid (HB.out.trans (hb1.mono HB.out.size))
  have Hb1 := Lib.hid hb1
  clear hb1 HB HQ
  repeat' (first | go_values | go_skip | go_guarded | go_step | go_upon)
  refine Calls.mono (HP.out w1 HB1.out) ?_
  rintro _ w2 ⟨rfl, hb2⟩
  dsimp only
  have HB2 := Lib.hid (HB1.out.trans (hb2.mono HB1.out.size))
  have Hb2 := Lib.hid (Hb1.out.trans (hb2.mono Hb1.out.size))
  clear hb2 HB1 Hb1 HP c0 c1 c2 c3 c4 c5 c6 c7
  by_cases hz : z = 0
  · subst hz
    clear HN
    repeat' (first | go_values | go_skip | go_guarded | go_step | go_upon)
    refine Calls.mono ((rx_parse ⟨s.toArray⟩ w2)) ?_
    rintro _ w3 ⟨r2, er, at', rfl, hb3, hp3⟩
    dsimp only
    obtain ⟨rfl, rfl, m, hm⟩ := HK.out _ _ _ _ rfl hp3
    have hone2 := hm.one
    have hk := (Below.refl w3.heap.size w3).alloc (Nat.le_refl _) (.cells (reC r2).toArray 28)
    have HB3 := Lib.hid ((HB2.out.trans (hb3.mono HB2.out.size)).trans (hk.mono (Nat.le_trans HB2.out.size hb3.size)))
    obtain ⟨c0, c1, c2, c3, c4, c5, c6, c7⟩ := HX.out (w3.alloc (.cells (reC r2).toArray 28)) ((Hb2.out.trans (hb3.mono Hb2.out.size)).trans (hk.mono (Nat.le_trans Hb2.out.size hb3.size)))
    have hl := HL.out m r2 _ HB3.out (hm.keep hk)
    have HB7 := Lib.hid (ReBox.new w3 r2)
    clear hb3 hp3 hm hk HK HX HL HB2 Hb2
    repeat' (go_not_at_region 6; first | (refine store_re (r := r2) hone2 _ _ rfl rfl rfl rfl ?_; dsimp only [Act.put]) | go_values | go_skip | go_guarded | go_step | go_upon)
    generalize w3.alloc (.cells (reC r2).toArray 28) = w4 at HB3 c0 c1 c2 c3 c4 c5 c6 c7 hl HB7 ⊢
    repeat' (first | (with_reducible refine load_box HB7.out _ rfl rfl ?_; dsimp only [Act.put]) | go_values | go_skip | go_guarded | go_step | go_upon)
    refine Calls.mono (hl) ?_
    rintro _ w5 ⟨rfl, hb5⟩
    dsimp only
    have HB5 := Lib.hid (HB3.out.trans (hb5.mono HB3.out.size))
    clear hb5 HB3
    repeat' (first | go_values | go_skip | go_guarded | go_step | go_upon)
    go_ret
    exact ⟨rfl, HB5.out⟩
  · have hs := HN.out hz
    subst hs
    have hz1 : (z != 0) = true := bne_iff_ne.2 hz
    clear HN HK HL HX hz
    repeat' (first | go_values | go_skip | go_guarded | go_step | go_upon)
    go_ret
    exact ⟨rfl, HB2.out⟩
end Go.Proofs.YtnbfifmnigeolaaDoor
namespace Go.Proofs.YtnbfifmnigeolaaDoor
open Go.RowKit
/-- each node may be, its words are words -/
inductive Shp : Re → Prop where
  | mk (k : Int) (st : Nat × Nat × Nat × Nat) (mn mx : Int) (kids : List Re) (h : okP (.mk k st mn mx kids)) (hw : words64 st) (hk : ∀ u ∈ kids, Shp u) : Shp (.mk k st mn mx kids)
theorem Shp.ok {t : Re} (h : Shp t) : okP t := by cases h; assumption
theorem Shp.kid {t u : Re} (h : Shp t) (hu : u ∈ t.kidsP) : Shp u := by
  cases h with
  | mk k st mn mx kids h hw hk => exact hk u hu
theorem w00 : words64 (0, 0, 0, 0) := by unfold words64 U64; decide
theorem Shp.set (p : Nat → Bool) : Shp (setT p) := .mk _ _ _ _ _ (.inl ⟨rfl, rfl, rfl, rfl⟩) ⟨W_u64 p 0, W_u64 p 1, W_u64 p 2, W_u64 p 3⟩ (fun u hu => by cases hu)
theorem noS0 : noS (0, 0, 0, 0) = true := by decide
theorem Shp.rep {lo : Nat} {hi : Int} {t : Re} (ht : Shp t) (hl : lo ≤ 20) (hh : hi = -1 ∨ ((lo : Int) ≤ hi ∧ hi ≤ 20)) : Shp (repT lo hi t) := by
  unfold repT
  split
  · exact ht
  · rename_i hn
    refine .mk _ _ _ _ _ (.inr (.inr ⟨rfl, noS0, rfl, by omega, by omega, ?_⟩)) w00 (fun u hu => by simp only [List.mem_singleton] at hu; rw [hu]; exact ht)
    rcases hh with hh | ⟨h1, h2⟩
    · exact .inl hh
    · exact .inr ⟨h1, h2, fun q => hn ⟨by omega, q.2⟩⟩
theorem flat_shp {k : Int} (hk : k = 2 ∨ k = 3) : ∀ {l : List Re}, (∀ u ∈ l, Shp u) → ∀ u ∈ flatT k l, Shp u ∧ u.kind ≠ k
  | [], _, u, hu => by cases hu
  | t :: l, h, u, hu => by
    unfold flatT at hu
    rw [List.flatMap_cons, List.mem_append] at hu
    rcases hu with hu | hu
    · have ht := h t (by simp)
      split at hu
      · rename_i hkt
        refine ⟨ht.kid hu, ?_⟩
        have ho := ht.ok
        obtain ⟨k', st, mn, mx, kids⟩ := t
        have e : k' = k := hkt
        subst e
        rcases ho with ⟨o, _⟩ | ⟨_, _, _, _, _, o⟩ | ⟨o, _⟩
        · omega
        · exact o u hu
        · omega
      · rename_i hkt
        simp only [List.mem_singleton] at hu
        subst hu
        exact ⟨ht, by rw [← kind_same]; exact hkt⟩
    · exact flat_shp hk (fun v hv => h v (by simp [hv])) u hu
theorem flat_some {k : Int} (hk : k = 2 ∨ k = 3) {l : List Re} (h : ∀ u ∈ l, Shp u) (h3 : k = 3) (h0 : l ≠ []) : 0 < (flatT k l).length := by
  cases l with
  | nil => exact absurd rfl h0
  | cons t l =>
    unfold flatT
    rw [List.flatMap_cons, List.length_append]
    have ht := (h t (by simp)).ok
    split
    · rename_i hkt
      obtain ⟨k', st, mn, mx, kids⟩ := t
      have e : k' = k := hkt
      subst e
      have : 0 < kids.length := by
        rcases ht with ⟨o, _⟩ | ⟨_, _, _, _, o, _⟩ | ⟨o, _⟩
        · omega
        · rcases o with o | ⟨o, _⟩
          · omega
          · omega
        · omega
      show 0 < kids.length + _
      omega
    · simp only [List.length_cons, List.length_nil]; omega
theorem Shp.join {k : Int} (hk : k = 2 ∨ k = 3) {l : List Re} (h : ∀ u ∈ l, Shp u) (h0 : k = 3 → l ≠ []) : Shp (joinT k l) := by
  have hf := flat_shp hk h
  by_cases h1 : (flatT k l).length = 1
  · obtain ⟨t, ht⟩ := List.length_eq_one_iff.1 h1
    rw [joinT_one ht]
    exact (hf t (by rw [ht]; simp)).1
  · rw [joinT_many h1]
    refine .mk _ _ _ _ _ (.inr (.inl ⟨hk, noS0, rfl, rfl, ?_, fun u hu => (hf u hu).2⟩)) w00 (fun u hu => (hf u hu).1)
    by_cases h3 : k = 3
    · have := flat_some hk h h3 (h0 h3)
      exact .inl (by omega)
    · by_cases hz : (flatT k l).length = 0
      · exact .inr ⟨by omega, by omega⟩
      · exact .inl (by omega)
/-- the trees that a part begins with -/
def Tk.good : Tk → Prop
  | .altL l => (∀ u ∈ l, Shp u) ∧ l ≠ []
  | .cat l => ∀ u ∈ l, Shp u
  | .itemL t => Shp t
  | _ => True
section
variable {s : List UInt8}
theorem numR_ge {least i a j : Nat} (h : numR s least i = .ok a j) : least ≤ a ∧ a ≤ 20 := by
  unfold numR at h
  split at h
  · rename_i hd
    split at h
    · split at h
      · cases h
      · simp only [PR.ok.injEq] at h; omega
    · split at h
      · cases h
      · simp only [PR.ok.injEq] at h; have := hd.2; omega
  · cases h
theorem bndR_ge {i j : Nat} {b : Nat × Int} (h : bndR s i = .ok b j) : b.1 ≤ 20 ∧ (b.2 = -1 ∨ ((b.1 : Int) ≤ b.2 ∧ b.2 ≤ 20)) := by
  unfold bndR at h
  obtain ⟨lo, k, h1, h2⟩ := PR.bind_ok h
  have hl := numR_ge h1
  split at h2
  · split at h2
    · simp only [PR.ok.injEq] at h2
      rw [← h2.1]; exact ⟨hl.2, .inl rfl⟩
    · obtain ⟨hi, k2, h3, h4⟩ := PR.bind_ok h2
      have hh := numR_ge h3
      simp only [PR.ok.injEq] at h4
      rw [← h4.1]; exact ⟨hl.2, .inr ⟨by show (lo : Int) ≤ (hi : Int); omega, by show (hi : Int) ≤ 20; omega⟩⟩
  · simp only [PR.ok.injEq] at h2
    rw [← h2.1]; exact ⟨hl.2, .inr ⟨Int.le_refl _, by show (lo : Int) ≤ 20; omega⟩⟩
theorem clsR_shp {f i : Nat} {t : Re} {j : Nat} (h : clsR s f i = .ok t j) : Shp t := by
  unfold clsR at h
  split at h
  all_goals
    obtain ⟨a, k, _, h2⟩ := PR.bind_ok h
    simp only [PR.ok.injEq] at h2
    rw [← h2.1]; exact Shp.set _
theorem app_shp {l : List Re} {a : Re} (h : ∀ u ∈ l, Shp u) (ha : Shp a) : ∀ u ∈ l ++ [a], Shp u := fun u hu => by
  rcases List.mem_append.1 hu with hu | hu
  · exact h u hu
  · simp only [List.mem_singleton] at hu; rw [hu]; exact ha
theorem prs_shp : ∀ (f : Nat) (k : Tk) (d i : Nat) (t : Re) (j : Nat), k.good → prs s f k d i = .ok t j → Shp t
  | 0, _, _, _, _, _, _, h => by rw [prs] at h; cases h
  | f + 1, .alt, d, i, t, j, _, h => by
    rw [prs] at h
    obtain ⟨a, k, h1, h2⟩ := PR.bind_ok h
    have ha := prs_shp f (.cat []) d i a k (fun u hu => by cases hu) h1
    exact prs_shp f (.altL [a]) d k t j ⟨fun u hu => by simp only [List.mem_singleton] at hu; rw [hu]; exact ha, by simp⟩ h2
  | f + 1, .altL l, d, i, t, j, hg, h => by
    rw [prs] at h
    split at h
    · obtain ⟨a, k, h1, h2⟩ := PR.bind_ok h
      have ha := prs_shp f (.cat []) d (i + 1) a k (fun u hu => by cases hu) h1
      exact prs_shp f (.altL (l ++ [a])) d k t j ⟨app_shp hg.1 ha, by simp⟩ h2
    · simp only [PR.ok.injEq] at h
      rw [← h.1]; exact Shp.join (.inr rfl) hg.1 fun _ => hg.2
  | f + 1, .cat l, d, i, t, j, hg, h => by
    rw [prs] at h
    split at h
    · obtain ⟨a, k, h1, h2⟩ := PR.bind_ok h
      have ha := prs_shp f .item d i a k trivial h1
      exact prs_shp f (.cat (l ++ [a])) d k t j (app_shp hg ha) h2
    · simp only [PR.ok.injEq] at h
      rw [← h.1]; exact Shp.join (.inl rfl) hg fun q => by omega
  | f + 1, .item, d, i, t, j, _, h => by
    rw [prs] at h
    obtain ⟨a, k, h1, h2⟩ := PR.bind_ok h
    exact prs_shp f (.itemL a) d k t j (prs_shp f .atom d i a k trivial h1) h2
  | f + 1, .itemL t0, d, i, t, j, hg, h => by
    rw [prs] at h
    have ht : Shp t0 := hg
    split at h
    · exact prs_shp f (.itemL (repT 0 (-1) t0)) d _ t j (Shp.rep (lo := 0) ht (by omega) (.inl rfl)) h
    split at h
    · exact prs_shp f (.itemL (repT 1 (-1) t0)) d _ t j (Shp.rep (lo := 1) ht (by omega) (.inl rfl)) h
    split at h
    · exact prs_shp f (.itemL (repT 0 1 t0)) d _ t j (Shp.rep (lo := 0) ht (by omega) (.inr ⟨by omega, by omega⟩)) h
    split at h
    · obtain ⟨b, k, h1, h2⟩ := PR.bind_ok h
      have hb := bndR_ge h1
      split at h2
      · exact prs_shp f (.itemL (repT b.1 b.2 t0)) d _ t j (Shp.rep ht hb.1 hb.2) h2
      · cases h2
    · simp only [PR.ok.injEq] at h
      rw [← h.1]; exact ht
  | f + 1, .atom, d, i, t, j, _, h => by
    rw [prs] at h
    split at h
    · split at h
      · cases h
      · obtain ⟨a, k, h1, h2⟩ := PR.bind_ok h
        have ha := prs_shp f .alt (d + 1) (i + 1) a k trivial h1
        split at h2
        · simp only [PR.ok.injEq] at h2; rw [← h2.1]; exact ha
        · cases h2
    split at h
    · exact clsR_shp h
    split at h
    · simp only [PR.ok.injEq] at h; rw [← h.1]; exact Shp.set _
    split at h
    · split at h
      · simp only [PR.ok.injEq] at h; rw [← h.1]; exact Shp.set _
      · obtain ⟨a, k, h1, h2⟩ := PR.bind_ok h
        simp only [PR.ok.injEq] at h2; rw [← h2.1]; exact Shp.set _
    split at h
    · simp only [PR.ok.injEq] at h; rw [← h.1]; exact Shp.set _
    · cases h
theorem prsA_shp {t : Re} {j : Nat} (h : prsA s = .ok t j) : Shp t := by
  unfold prsA at h
  split at h
  · cases h
  · cases hx : prs s 4200 .alt 0 0 with
    | ok t' k =>
      rw [hx] at h
      dsimp only at h
      split at h
      · cases h
      · simp only [PR.ok.injEq] at h
        rw [← h.1]
        exact prs_shp 4200 .alt 0 0 t' k trivial hx
    | bad e k => rw [hx] at h; cases h
    | out => rw [hx] at h; cases h
theorem prsA_le {e j : Nat} (h : prsA s = .bad e j) : j ≤ s.length := by
  unfold prsA at h
  split at h
  · simp only [PR.bad.injEq] at h; omega
  · have hin := prs_in (s := s) 4200 .alt 0 0 (Nat.zero_le _)
    cases hx : prs s 4200 .alt 0 0 with
    | ok t' k =>
      rw [hx] at h hin
      dsimp only at h
      split at h
      · simp only [PR.bad.injEq] at h; have := hin.2; omega
      · cases h
    | bad e' k => rw [hx] at h hin; simp only [PR.bad.injEq] at h; have := hin.2; omega
    | out => rw [hx] at h; cases h
end
theorem Shp.shp {t : Re} (h : Shp t) : ∀ {n : Nat} {w : World} {r : RN}, ReAt w n r t → Go.Proofs.YtnbfifmnigeolaaDoor.shp n t = true ∧ allW n t := by
  induction h with
  | mk k st mn mx kids ho hw hk ih =>
    intro n w r hr
    cases n with
    | zero => exact hr.elim
    | succ n =>
      obtain ⟨_, _, _, rs, _, hl, hs⟩ := hr
      have hkid : ∀ u ∈ kids, Go.Proofs.YtnbfifmnigeolaaDoor.shp n u = true ∧ allW n u := fun u hu => by
        obtain ⟨i, hi⟩ := List.getElem?_of_mem hu
        have hlt := (List.getElem?_eq_some_iff.1 hi).1
        exact ih u hu (hs i _ u (List.getElem?_eq_getElem (by omega)) hi)
      refine ⟨?_, hw, fun u hu => (hkid u hu).2⟩
      rw [Go.Proofs.YtnbfifmnigeolaaDoor.shp]
      simp only [Bool.and_eq_true, List.all_eq_true]
      exact ⟨okN_iff.2 ho, fun u hu => (hkid u hu).1⟩
/-- so many levels as a tree is deep are enough -/
theorem ReAt.tight : ∀ {H n : Nat} {w : World} {r : RN} {t : Re}, ReAt w n r t → dep n t ≤ H → ReAt w H r t
  | _, 0, _, _, _, h, _ => h.elim
  | 0, n + 1, _, _, t, _, hd => by have := dep_pos (h := n) (t := t); omega
  | H + 1, n + 1, w, r, .mk k st mn mx kids, h, hd => by
    obtain ⟨h1, h2, h3, rs, h4, h5, h6⟩ := h
    refine ⟨h1, h2, h3, rs, h4, h5, fun i r' t hi ht => (h6 i r' t hi ht).tight ?_⟩
    have := dep_kid (h := n) (t := .mk k st mn mx kids) (List.mem_of_getElem? ht)
    omega
/-- a failing has a number -/
def PR.Nz {α : Type} (x : PR α) : Prop := match x with
  | .bad e _ => e ≠ 0
  | _ => True
theorem PR.Nz.bind {α β : Type} {x : PR α} {f : α → Nat → PR β} (h : x.Nz) (h2 : ∀ a j, (f a j).Nz) : (x.bind f).Nz := by
  cases x with
  | ok a j => exact h2 a j
  | bad e j => exact h
  | out => trivial
theorem PR.Nz.ite {α : Type} {p : Prop} [Decidable p] {a b : PR α} (h1 : a.Nz) (h2 : b.Nz) : (if p then a else b).Nz := by
  by_cases hp : p
  · rw [if_pos hp]; exact h1
  · rw [if_neg hp]; exact h2
theorem nz60 {α : Type} {j : Nat} : (PR.bad 60 j : PR α).Nz := by show 60 ≠ 0; decide
theorem nzok {α : Type} {a : α} {j : Nat} : (PR.ok a j).Nz := trivial
section
variable {s : List UInt8}
theorem numR_nz (l i : Nat) : (numR s l i).Nz := .ite (.ite (.ite nz60 nzok) (.ite nz60 nzok)) nz60
theorem hexR_nz (i : Nat) : (hexR s i).Nz := by
  unfold hexR
  refine .ite ?_ nz60
  split
  · exact nzok
  · exact nz60
theorem escR_nz (i : Nat) : (escR s i).Nz := .ite (.ite nzok (.ite nzok (.ite nzok (.ite ((hexR_nz _).bind fun _ _ => (hexR_nz _).bind fun _ _ => nzok) (.ite nzok nz60))))) nz60
theorem pntR_nz (i : Nat) : (pntR s i).Nz := .ite (escR_nz _) (.ite nzok nz60)
theorem bndR_nz (i : Nat) : (bndR s i).Nz := (numR_nz _ _).bind fun _ _ => .ite (.ite nzok ((numR_nz _ _).bind fun _ _ => nzok)) nzok
theorem clsL_nz : ∀ (f : Nat) (a : Nat → Bool) (first : Bool) (i : Nat), (clsL s f a first i).Nz
  | 0, _, _, _ => trivial
  | f + 1, a, first, i => by
    rw [clsL]
    refine .ite nzok ?_
    split
    · exact clsL_nz f _ _ _
    · exact (pntR_nz _).bind fun _ _ => .ite ((pntR_nz _).bind fun _ _ => .ite nz60 (clsL_nz f _ _ _)) (clsL_nz f _ _ _)
theorem clsR_nz (f i : Nat) : (clsR s f i).Nz := .ite ((clsL_nz _ _ _ _).bind fun _ _ => nzok) ((clsL_nz _ _ _ _).bind fun _ _ => nzok)
theorem prs_nz : ∀ (f : Nat) (k : Tk) (d i : Nat), (prs s f k d i).Nz
  | 0, _, _, _ => trivial
  | f + 1, k, d, i => by
    cases k with
    | alt => rw [prs]; exact (prs_nz f _ _ _).bind fun _ _ => prs_nz f _ _ _
    | altL l => rw [prs]; exact .ite ((prs_nz f _ _ _).bind fun _ _ => prs_nz f _ _ _) nzok
    | cat l => rw [prs]; exact .ite ((prs_nz f _ _ _).bind fun _ _ => prs_nz f _ _ _) nzok
    | item => rw [prs]; exact (prs_nz f _ _ _).bind fun _ _ => prs_nz f _ _ _
    | itemL t => rw [prs]; exact .ite (prs_nz f _ _ _) (.ite (prs_nz f _ _ _) (.ite (prs_nz f _ _ _) (.ite ((bndR_nz _).bind fun _ _ => .ite (prs_nz f _ _ _) nz60) nzok)))
    | atom =>
      rw [prs]
      refine .ite (.ite (by show 2 ≠ 0; decide) ((prs_nz f _ _ _).bind fun _ _ => .ite nzok nz60)) (.ite (clsR_nz _ _) (.ite nzok (.ite ?_ (.ite nzok nz60))))
      split
      · exact nzok
      · exact (escR_nz _).bind fun _ _ => nzok
theorem prsA_nz {e j : Nat} (h : prsA s = .bad e j) : e ≠ 0 := by
  unfold prsA at h
  split at h
  · simp only [PR.bad.injEq] at h; omega
  · have hn := prs_nz (s := s) 4200 .alt 0 0
    cases hx : prs s 4200 .alt 0 0 with
    | ok t' k =>
      rw [hx] at h
      dsimp only at h
      split at h
      · simp only [PR.bad.injEq] at h; omega
      · cases h
    | bad e' k => rw [hx] at h hn; simp only [PR.bad.injEq] at h; rw [← h.1]; exact hn
    | out => rw [hx] at h; cases h
end
end Go.Proofs.YtnbfifmnigeolaaDoor
namespace Go.Proofs.YtnbfifmnigeolaaDoor
open Go.RowKit Go.Lib
theorem ReOk1 {s : List UInt8} {r : RN} {er at' : Int} {w : World} (h : ParsP s r er at' w) : r.v.oneCell' = true := by
  unfold ParsP at h
  cases hx : prsA s with
  | bad e0 j => rw [hx] at h; rw [h.2.2]; rfl
  | ok t j =>
    rw [hx] at h
    obtain ⟨_, ⟨_, n, h1, _⟩ | ⟨_, h1, _⟩⟩ := h
    · exact h1.one
    · rw [h1]; rfl
  | out => rw [hx] at h; exact h.elim
set_option maxRecDepth 100000 in
theorem law_aliveG (w : World) : Calls Tryd.prog 9 #[] w fun e w' => e = .returned (.bool true) ∧ Below w.heap.size w w' := by
  have h1 := utf_Count ⟨#[97]⟩ (by show 1 ≤ _; omega)
  rw [count_a] at h1
  go_enter Tryd.func9, Tryd.ntmps9
  repeat' (first | go_values | go_skip | go_guarded | go_step | go_upon)
  refine Calls.mono (h1 _) ?_
  rintro _ w1 ⟨rfl, hb1⟩
  dsimp only
  repeat' (first | go_values | go_skip | go_guarded | go_step | go_upon)
  go_ret
  exact ⟨rfl, hb1⟩
/-- what is read of a text: a tree that may be, or none and a place within the text -/
theorem pars_any {s : List UInt8} {r : RN} {er at' : Int} {w : World} (hp : ParsP s r er at' w) : (er ≠ 0 ∧ r = reZ ∧ 0 ≤ at' ∧ at' ≤ s.length) ∨ (er = 0 ∧ ∃ t, ReAt w 30 r t ∧ shp 30 t = true ∧ allW 30 t ∧ dep 30 t ≤ 30) := by
  unfold ParsP at hp
  cases hx : prsA s with
  | bad e j =>
    rw [hx] at hp
    obtain ⟨h1, h2, h3⟩ := hp
    have hj := prsA_le hx
    have he := prsA_nz hx
    exact .inl ⟨by omega, h3, by omega, by omega⟩
  | ok t j =>
    rw [hx] at hp
    obtain ⟨h1, ⟨h2, n, h3, h4⟩ | ⟨h2, h3, _⟩⟩ := hp
    · have ht := h3.tight h4
      have hs := (prsA_shp hx).shp ht
      exact .inr ⟨h2, t, ht, hs.1, hs.2, by rw [dep_eq ht h3]; exact h4⟩
    · exact .inl ⟨by omega, h3, by omega, by omega⟩
  | out => rw [hx] at hp; exact hp.elim
theorem rgt_two {t : Re} (hs : shp 30 t = true) : rgt 30 t = 0 ∨ rgt 30 t = 2 := by
  unfold rgt
  split
  · exact .inr rfl
  · split
    · exact .inr rfl
    · exact .inl rfl
theorem ReBox.cells8 {w : World} {b : Nat} {r : RN} (h : ReBox w b r) : Cells8 w b 0 r := by
  refine ⟨?_, ?_, ?_, ?_, ?_, ?_, ?_, ?_⟩ <;> (rw [cell_of_row _ _ _ _ _ _ h]; rfl)
theorem prR_two {h : Nat} {t : Re} (hz : rgt h t = 0) : (prR h t).2 = 0 ∨ (prR h t).2 = 2 := by
  unfold prR
  rw [if_pos hz]
  split
  · exact .inr rfl
  · exact .inl rfl
theorem reZ_at (w : World) : ReAt w 1 reZ (.mk 0 (0, 0, 0, 0) 0 0 []) :=
  ⟨⟨rfl, rfl, rfl, rfl⟩, ⟨by unfold I64; omega, by unfold I64; omega, by unfold I64; omega⟩, Nat.zero_le _, [], ⟨none, 0, rfl, Nat.le_refl _, Nat.zero_le _, rfl, .inl rfl⟩, rfl, fun i r t h => by simp at h⟩
set_option maxRecDepth 100000 in
set_option maxHeartbeats 4000000 in
theorem law_RegexAgain (w : World) (S : ByteArray) (_ : S.size ≤ 140737488351232) (hT : TT w) : Calls Tryd.prog 4 #[.string S] w fun e w' => e = .returned (.bool true) ∧ Below w.heap.size w w' := by
  go_enter Tryd.func4, Tryd.ntmps4
  repeat' (first | go_values | go_skip | go_guarded | go_step | go_upon)
  refine Calls.mono ((law_aliveG _)) ?_
  rintro _ w1 ⟨rfl, hb1⟩
  dsimp only
  repeat' (first | go_values | go_skip | go_guarded | go_step | go_upon)
  refine Calls.mono ((rx_parse S w1)) ?_
  rintro _ w2 ⟨r, er, at', rfl, hb2, hp⟩
  dsimp only
  have hone := ReOk1 hp
  have hk2 := (Below.refl w2.heap.size w2).alloc (Nat.le_refl _) (.cells (reC r).toArray 28)
  have HB := Lib.hid ((hb1.trans (hb2.mono hb1.size)).trans (hk2.mono (Nat.le_trans hb1.size hb2.size)))
  have HR := Lib.hid (ReBox.new w2 r)
  rcases pars_any hp with ⟨h0, rfl, h1, h2⟩ | ⟨rfl, t, ht, hs, ha, hd⟩
  · have h0' : (er != 0) = true := bne_iff_ne.2 h0
    have hl := fun W => like_same 1 reZ reZ _ W (reZ_at W) (reZ_at W)
    have h1' : at' ≥ 0 := h1
    have h2' : at' ≤ (S.size : Int) := by rw [ba_len] at h2; exact h2
    clear hp hb1 hb2 hk2 h0 h1 h2
    repeat' (go_not_at_region 4; first | (refine store_re (r := reZ) hone _ _ rfl rfl rfl rfl ?_; dsimp only [Act.put]) | go_values | go_skip | go_guarded | go_step | go_upon)
    generalize w2.alloc (.cells (reC reZ).toArray 28) = w3 at HB HR ⊢
    repeat' (first | (with_reducible refine load_box HR.out _ rfl rfl ?_; dsimp only [Act.put]) | go_values | go_skip | go_guarded | go_step | go_upon)
    refine Calls.mono (hl _) ?_
    rintro _ w4 ⟨rfl, hb4⟩
    dsimp only
    have HB4 := Lib.hid (HB.out.trans (hb4.mono HB.out.size))
    clear hb4 hl
    repeat' (first | go_values | go_skip | go_guarded | go_step | go_upon)
    go_ret
    exact ⟨rfl, HB4.out⟩
  · have HA := Lib.hid (ht.keep hk2)
    clear hp hb1 hb2 hk2 ht
    repeat' (go_not_at_region 4; first | (refine store_re (r := r) hone _ _ rfl rfl rfl rfl ?_; dsimp only [Act.put]) | go_values | go_skip | go_guarded | go_step | go_upon)
    generalize w2.alloc (.cells (reC r).toArray 28) = w3 at HB HR HA ⊢
    have hR := regex_Right 30 r t w3 HA.out
    have hQ2 := fun W (hW : Below w3.heap.size w3 W) => regex_Right 30 r t W (HA.out.keep hW)
    repeat' (first | (with_reducible refine load_box HR.out _ rfl rfl ?_; dsimp only [Act.put]) | go_values | go_skip | go_guarded | go_step | go_upon)
    refine Calls.mono (hR) ?_
    rintro _ w4 ⟨rfl, hb4⟩
    dsimp only
    have HR4 := Lib.hid (HR.out.keep hb4)
    have HA4 := Lib.hid (HA.out.keep hb4)
    have HB4 := Lib.hid (HB.out.trans (hb4.mono HB.out.size))
    have hQ := hQ2 w4 hb4
    clear hR hQ2 hb4 HB HR HA
    rcases rgt_two hs with hz | hz
    · have HZ := Lib.hid (prR_two hz)
      rw [hz]
      have hP := regex_Print 30 r t w4 HA4.out ha (hT.keep HB4.out)
      have HP2 : Hid (∀ r2 W, ReAt W 30 r2 t → Below w.heap.size w W → Calls Tryd.prog 6 #[reV r2] W _) := Lib.hid fun r2 W h2 hW => regex_Print 30 r2 t W h2 ha (hT.keep hW)
      have HK : Hid (∀ r2 er at' W, (prR 30 t).2 = 0 → ParsP (prR 30 t).1 r2 er at' W → er = 0 ∧ at' = 0 ∧ ReAt W 30 r2 t) := Lib.hid fun r2 er at' W hz2 hp => by
        obtain ⟨h1, h2, m, h3⟩ := pars_back HA4.out ha hz2 hp
        exact ⟨h1, h2, h3.tight (by rw [dep_eq h3 HA4.out]; exact hd)⟩
      obtain ⟨R, hRR⟩ : ∃ R, prR 30 t = R := ⟨_, rfl⟩
      rw [hRR] at hP HP2 HK HZ
      obtain ⟨s, z⟩ := R
      dsimp only at hP HP2 HK HZ
      clear hQ hz hs ha hd hT hRR
      repeat' (first | (with_reducible refine load_box HR4.out _ rfl rfl ?_; dsimp only [Act.put]) | go_values | go_skip | go_guarded | go_step | go_upon)
      refine Calls.mono (hP) ?_
      rintro _ w5 ⟨rfl, hb5⟩
      dsimp only
      have HR5 := Lib.hid (HR4.out.keep hb5)
      have HA5 := Lib.hid (HA4.out.keep hb5)
      have HB5 := Lib.hid (HB4.out.trans (hb5.mono HB4.out.size))
      clear hP hb5 HR4 HA4 HB4
      rcases HZ.out with hz | hz
      · subst hz
        repeat' (first | go_values | go_skip | go_guarded | go_step | go_upon)
        refine Calls.mono ((rx_parse ⟨s.toArray⟩ w5)) ?_
        rintro _ w6 ⟨r2, er2, at2, rfl, hb6, hp6⟩
        dsimp only
        obtain ⟨rfl, rfl, hm⟩ := HK.out _ _ _ _ rfl hp6
        have hone2 := hm.one
        have hk := (Below.refl w6.heap.size w6).alloc (Nat.le_refl _) (.cells (reC r2).toArray 28)
        have HR7 := Lib.hid ((HR5.out.keep hb6).keep hk)
        have HA7 := Lib.hid ((HA5.out.keep hb6).keep hk)
        have HM7 := Lib.hid (hm.keep hk)
        have HS7 := Lib.hid (ReBox.new w6 r2)
        have HB7 := Lib.hid ((HB5.out.trans (hb6.mono HB5.out.size)).trans (hk.mono (Nat.le_trans HB5.out.size hb6.size)))
        clear hb6 hp6 hm hk HK HZ HR5 HA5 HB5
        repeat' (go_not_at_region 12; first | (refine store_re (r := r2) hone2 _ _ rfl rfl rfl rfl ?_; dsimp only [Act.put]) | go_values | go_skip | go_guarded | go_step | go_upon)
        generalize w6.alloc (.cells (reC r2).toArray 28) = w7 at HR7 HA7 HM7 HS7 HB7 ⊢
        have hP := HP2.out r2 w7 HM7.out HB7.out
        repeat' (first | (with_reducible refine load_box HS7.out _ rfl rfl ?_; dsimp only [Act.put]) | go_values | go_skip | go_guarded | go_step | go_upon)
        refine Calls.mono (hP) ?_
        rintro _ w8 ⟨rfl, hb8⟩
        dsimp only
        have HR8 := Lib.hid (HR7.out.keep hb8)
        have HS8 := Lib.hid (HS7.out.keep hb8)
        have HB8 := Lib.hid (HB7.out.trans (hb8.mono HB7.out.size))
        have hl := like_same 30 r r2 t w8 (HA7.out.keep hb8) (HM7.out.keep hb8)
        clear hP hb8 HP2 HR7 HS7 HA7 HM7 HB7
        obtain ⟨c0, c1, c2, c3, c4, c5, c6, c7⟩ := HS8.out.cells8
        obtain ⟨d0, d1, d2, d3, d4, d5, d6, d7⟩ := HR8.out.cells8
        clear HR8 HS8
        repeat' (first | go_values | go_skip | go_guarded | go_step | go_upon)
        refine Calls.mono (hl) ?_
        rintro _ w9 ⟨rfl, hb9⟩
        dsimp only
        have HB9 := Lib.hid (HB8.out.trans (hb9.mono HB8.out.size))
        clear hb9 hl
        repeat' (first | go_values | go_skip | go_guarded | go_step | go_upon)
        go_ret
        exact ⟨rfl, HB9.out⟩
      · subst hz
        clear HK HZ HP2
        repeat' (first | go_values | go_skip | go_guarded | go_step | go_upon)
        go_ret
        exact ⟨rfl, HB5.out⟩
    · rw [hz] at hQ ⊢
      repeat' (first | (with_reducible refine load_box HR4.out _ rfl rfl ?_; dsimp only [Act.put]) | go_values | go_skip | go_guarded | go_step | go_upon)
      refine Calls.mono (hQ) ?_
      rintro _ w5 ⟨rfl, hb5⟩
      dsimp only
      have HB5 := Lib.hid (HB4.out.trans (hb5.mono HB4.out.size))
      clear hb5 hQ
      repeat' (first | go_values | go_skip | go_guarded | go_step | go_upon)
      go_ret
      exact ⟨rfl, HB5.out⟩
end Go.Proofs.YtnbfifmnigeolaaDoor
