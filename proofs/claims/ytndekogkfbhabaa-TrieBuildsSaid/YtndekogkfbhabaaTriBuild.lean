/- Walk: a trie is built of few words, or refused (Build). Conditions: the list can be read; few words, or too many. -/
import Derived.Test.YtndekogkfbhabaaTriTreeW
import Derived.Test.YtndekogkfbhabaaTriLayW
import Derived.Test.YtndekogkfbhabaaTriJoin
import Derived.Laws.ResultCell
namespace Go.Proofs.Ytndekogkfbhabaa
open Go.RowKit
/-- a trie that was laid -/
def TrieV (w : World) (x : Value) (M : TM) : Prop := ∃ b1 c1 b2 c2 b3 c3, x = .agg #[.slice (some ⟨b1, 0, none⟩) M.c.length c1, .slice (some ⟨b2, 0, none⟩) M.c.length c2, .slice (some ⟨b3, 0, none⟩) M.c.length c3] ∧ Row3 w b1 0 M.c.length M.B ∧ Row3 w b2 0 M.c.length M.C ∧ Row3 w b3 0 M.c.length M.W
theorem TrieV.keep {w w' : World} {x : Value} {M : TM} (h : TrieV w x M) (hb : Below w.heap.size w w') : TrieV w' x M := by
  obtain ⟨b1, c1, b2, c2, b3, c3, e, h1, h2, h3⟩ := h
  exact ⟨b1, c1, b2, c2, b3, c3, e, h1.keep hb, h2.keep hb, h3.keep hb⟩
def noTrie : Value := .agg #[.slice none 0 0, .slice none 0 0, .slice none 0 0]
def longB (words : List (List UInt8)) : Prop := 2048 < words.length ∨ words.any (fun x => decide (64 < x.length)) = true
/-- the rows that words make -/
def laidM (words : List (List UInt8)) : TM := layF 65 (numbered words) 0 tm0
def BuildP (words : List (List UInt8)) (w : World) (e : Ending) (w' : World) : Prop :=
  Below w.heap.size w w' ∧ ((longB words ∧ e = .returned (.tuple #[noTrie, .int .i64 2])) ∨ (¬ longB words ∧ ¬ words.Nodup ∧ e = .returned (.tuple #[noTrie, .int .i64 151])) ∨
    (¬ longB words ∧ words.Nodup ∧ ∃ x, e = .returned (.tuple #[x, .int .i64 0]) ∧ TrieV w' x (laidM words)))
theorem info_trie : (Try.prog.info? 27).map (·.size) = some 3 := by kernel_rfl
theorem results_tri {fn : Func} {p u : Tmp} (h : fn.results = #[.cell p 27, .tmp u]) (tmps : Array Value) (w : World) (g : Nat) (a b c : Value) (hp : tmps.getD p undef = .pointer (some ⟨g, 0, none⟩)) (hs : w.heap[g]? = some (.cells #[a, b, c] 27 (0, 0))) :
    (results fn tmps).run Try.prog w = .ok (.tuple #[.agg #[a, b, c], tmps.getD u undef]) w := by
  rw [results_cell_tmp h, hp]
  simp [asAddr, run_loadVar_row w g 27 27 #[a, b, c] (0, 0) _ hs Try.underlying27 rfl info_trie, Result.andThen]
theorem set3 {w : World} {g : Nat} {t : TypeId} {a b c x y z : Value} (h : w.heap[g]? = some (.cells #[a, b, c] t (0, 0))) : (((w.setCell ⟨g, 0, none⟩ x).setCell ⟨g, 1, none⟩ y).setCell ⟨g, 2, none⟩ z).heap[g]? = some (.cells #[x, y, z] t (0, 0)) := by
  have h1 : (w.setCell ⟨g, 0, none⟩ x).heap[g]? = some (.cells #[x, b, c] t (0, 0)) := by
    rw [setCell_eq_setRow w g 0 _ _ _ _ h]; exact setRow_heap _ _ _ _ _ _ h
  have h2 : ((w.setCell ⟨g, 0, none⟩ x).setCell ⟨g, 1, none⟩ y).heap[g]? = some (.cells #[x, y, c] t (0, 0)) := by
    rw [setCell_eq_setRow _ g 1 _ _ _ _ h1]; exact setRow_heap _ _ _ _ _ _ h1
  rw [setCell_eq_setRow _ g 2 _ _ _ _ h2]; exact setRow_heap _ _ _ _ _ _ h2
theorem Row3.setOther {w : World} {b o n q k : Nat} {u : Value} {f : Nat → Int} (h : Row3 w b o n f) (hne : b ≠ q) : Row3 (w.setCell ⟨q, k, none⟩ u) b o n f :=
  ⟨by have := h.1; simpa [World.setCell] using this, fun i hi => by
    rw [World.cell?_of_block (w := w) (Below.heap_setCell _ _ _ _ (by dsimp only; exact hne))]
    exact h.2 i hi⟩
theorem own_row3 {B : Nat} {w : World} {b cap : Nat} {l : List Int} (h : OwnI B 3 .i64 w (.slice (some ⟨b, 0, none⟩) l.length cap) l) (d : Int) : Row3 w b 0 l.length fun i => l.getD i d :=
  ⟨(OwnC.lt h b rfl).2, fun i hi => by rw [Nat.zero_add]; exact own_at h hi d⟩
set_option maxRecDepth 100000 in
set_option maxHeartbeats 4000000 in
theorem trie_Build (words : List (List UInt8)) (v : Value) (w : World) (hrow : RowOf strC 1 w v words) (hfew : words.length ≤ 120 ∨ 2048 < words.length) : Calls Try.prog 7 #[v] w (BuildP words w) := by
  have hal : Below w.heap.size w (w.alloc (.cells #[.slice none 0 0, .slice none 0 0, .slice none 0 0] 27)) := (Below.refl _ _).alloc (Nat.le_refl _) _
  have hnew := Go.heap_alloc_new w (.cells #[.slice none 0 0, .slice none 0 0, .slice none 0 0] 27)
  have htree := tree_walk words v (w.alloc (.cells #[.slice none 0 0, .slice none 0 0, .slice none 0 0] 27)) (hrow.keep hal)
  have Hal := Lib.hid hal
  have Hnew := Lib.hid hnew
  clear hal hnew hrow
  go_enter Try.func7, Try.ntmps7
  repeat' (first | go_values | go_skip | go_guarded | go_step | go_upon)
  refine Calls.mono htree ?_
  rintro e w1 ⟨hb1, ht⟩
  have HB1 := Lib.hid (Hal.out.trans (hb1.mono Hal.out.size))
  have Hbx := Lib.hid (show w1.heap[w.heap.size]? = some (.cells #[.slice none 0 0, .slice none 0 0, .slice none 0 0] 27 (0, 0)) by
    rw [hb1.block _ (by simp)]; exact Hnew.out)
  have HWB : Hid (w.heap.size < w1.heap.size) := Lib.hid (Array.getElem?_eq_some_iff.1 Hbx.out).1
  clear hb1 htree
  have c0 : w1.cell? ⟨w.heap.size, 0, none⟩ = some (.slice none 0 0) := by rw [cell_of_row w1 w.heap.size 0 _ _ _ Hbx.out]; rfl
  have c1 : w1.cell? ⟨w.heap.size, 1, none⟩ = some (.slice none 0 0) := by rw [cell_of_row w1 w.heap.size 1 _ _ _ Hbx.out]; rfl
  have c2 : w1.cell? ⟨w.heap.size, 2, none⟩ = some (.slice none 0 0) := by rw [cell_of_row w1 w.heap.size 2 _ _ _ Hbx.out]; rfl
  have f0 : ∀ k, w1.frozen? ⟨w.heap.size, k, none⟩ = false := fun k => frozen_of_row _ _ _ _ _ Hbx.out
  by_cases hl : longB words
  · rw [if_pos (show _ ∨ _ from hl)] at ht
    subst ht
    have Hl := Lib.hid hl
    clear hl hfew
    dsimp only
    repeat' (first | go_values | go_skip | go_guarded | go_step | go_upon)
    refine bodyPost_ret (results_tri rfl _ _ w.heap.size _ _ _ rfl (set3 Hbx.out)) rfl ?_
    exact ⟨((HB1.out.setCell (p := ⟨w.heap.size, 0, none⟩) (Nat.le_refl _) _).setCell (p := ⟨w.heap.size, 1, none⟩) (Nat.le_refl _) _).setCell (p := ⟨w.heap.size, 2, none⟩) (Nat.le_refl _) _, .inl ⟨Hl.out, rfl⟩⟩
  · rw [if_neg (show ¬ (_ ∨ _) from hl)] at ht
    by_cases hd : words.Nodup
    · rw [if_neg (fun h => h hd)] at ht
      obtain ⟨A, Mp, rfl, hT, hA⟩ := ht
      have hw120 : words.length ≤ 120 := hfew.resolve_right fun h => hl (.inl h)
      have hsm : ∀ x ∈ words, x.length ≤ 64 := fun x hx => by
        have h1 : ¬ words.any (fun x => decide (64 < x.length)) = true := fun h => hl (.inr h)
        have := List.any_eq_false.1 (Bool.eq_false_iff.2 h1) x hx
        simp at this
        omega
      have hcost := few_len hw120 hsm
      have Hl := Lib.hid hl
      have Hd := Lib.hid hd
      have HT := Lib.hid hT
      have Hsm := Lib.hid hsm
      have Hcost := Lib.hid hcost
      obtain ⟨r, hr⟩ : ∃ r, A [] = r := ⟨_, rfl⟩
      rw [hr]
      have Hr := Lib.hid hr
      clear hl hd hT hA hsm hcost hr hfew hw120
      dsimp only
      repeat' (first | go_values | go_skip | go_guarded | go_step | go_upon)
      obtain ⟨g, hg⟩ : ∃ g, w1.heap.size = g := ⟨_, rfl⟩
      have hb2 : Below g w1 (w1.alloc (.cells #[.slice none 0 0, .slice none 0 0, .slice none 0 0, .int .i64 1] 45)) := by rw [← hg]; exact (Below.refl _ _).alloc (Nat.le_refl _) _
      have hM2 : MkAt g g (w1.alloc (.cells #[.slice none 0 0, .slice none 0 0, .slice none 0 0, .int .i64 1] 45)) ⟨[], [], [], 1⟩ ⟨.slice none 0 0, .slice none 0 0, .slice none 0 0⟩ :=
        ⟨by rw [← hg]; exact Go.heap_alloc_new w1 _, ⟨OwnI.nil _ _ _ _, OwnI.nil _ _ _ _, OwnI.nil _ _ _ _, fun q h => by simp [Value.ownBlock] at h, fun q h => by simp [Value.ownBlock] at h, fun q h => by simp [Value.ownBlock] at h⟩, Nat.le_refl _⟩
      have hT2 := HT.out.kn (KN.of_below (hg ▸ hb2))
      obtain ⟨w2, hw2⟩ : ∃ w2, w1.alloc (.cells #[.slice none 0 0, .slice none 0 0, .slice none 0 0, .int .i64 1] 45) = w2 := ⟨_, rfl⟩
      rw [hw2] at hb2 hM2 hT2 ⊢
      have hreach := mk_reach g g 1 ⟨[], [], [], 1⟩ _ w2 hM2 rfl rfl (by decide) (by decide)
      rw [hg]
      refine Calls.mono hreach ?_
      rintro _ w3 ⟨v3, ⟨u3, rfl⟩, hM3, hS3⟩
      dsimp only
      have hM3' : MkAt g g w3 tm0 v3 := hM3
      have hlay := mk_lay (numbered words) A Mp g g 64 [] 0 tm0 v3 w3 hM3' ⟨rfl, rfl, by decide, by decide⟩ (by decide) (by have := Hcost.out; show 1 + costW (numbered words) ≤ _; omega) (hT2.kn (hS3.kn hM2)) (.inl rfl) (by
        rintro ⟨x, i⟩ hx
        exact Hsm.out x (List.fst_mem_of_mem_zipIdx hx))
      rw [Hr.out] at hlay
      have HS3 := Lib.hid hS3
      have Hb2 := Lib.hid hb2
      have Hg := Lib.hid hg
      clear hM3 hM3' hS3 hreach hT2 hM2 hw2 hb2 hg
      repeat' (first | go_values | go_skip | go_guarded | go_step | go_upon)
      refine Calls.mono hlay ?_
      rintro _ w4 ⟨⟨u4, rfl⟩, v4, hM4, hS4⟩
      have hM4' : MkAt g g w4 (laidM words) v4 := hM4
      obtain ⟨e1, e2, e3, e4, _⟩ := lay_num 64 (numbered words) (by
        rintro ⟨x, i⟩ hx
        exact Hsm.out x (List.fst_mem_of_mem_zipIdx hx))
      have hb4 : Below g w1 w4 := (Hb2.out.trans HS3.out.bel).trans hS4.bel
      have hlb : (laidM words).b.length = (laidM words).c.length := e1
      have hlw : (laidM words).w.length = (laidM words).c.length := e2
      have hl1 : 1 ≤ (laidM words).c.length := e3
      have hl4 : (laidM words).c.length ≤ 400000 := Nat.le_trans e4 Hcost.out
      obtain ⟨b1, k1, hv1⟩ := own_some hM4'.row.ob (by omega)
      obtain ⟨b2, k2, hv2⟩ := own_some hM4'.row.oc (by omega)
      obtain ⟨b3, k3, hv3⟩ := own_some hM4'.row.ow (by omega)
      have r1 := hM4'.row.ob
      have r2 := hM4'.row.oc
      have r3 := hM4'.row.ow
      rw [hv1] at r1
      rw [hv2] at r2
      rw [hv3] at r3
      have r1 := own_row3 r1 0
      have r2 := own_row3 r2 (-1)
      have r3 := own_row3 r3 (-1)
      rw [hlb] at hv1 r1
      rw [hlw] at hv3 r3
      obtain ⟨n, hn⟩ : ∃ n, (laidM words).c.length = n := ⟨_, rfl⟩
      have hbs : g ≤ b1 ∧ g ≤ b2 ∧ g ≤ b3 := And.intro (hM4'.row.ob.below (by rw [hv1]; rfl)) (And.intro (hM4'.row.oc.below (by rw [hv2]; rfl)) (hM4'.row.ow.below (by rw [hv3]; rfl)))
      have Hbs : Hid (b1 ≠ w.heap.size ∧ b2 ≠ w.heap.size ∧ b3 ≠ w.heap.size) := Lib.hid (by have := HWB.out; have := Hg.out; omega)
      have Hn := Lib.hid hn
      have HR := Lib.hid (And.intro r1 (And.intro r2 r3))
      have HTV : Hid (TrieV w4 (.agg #[.slice (some ⟨b1, 0, none⟩) n k1, .slice (some ⟨b2, 0, none⟩) n k2, .slice (some ⟨b3, 0, none⟩) n k3]) (laidM words)) := Lib.hid ⟨b1, k1, b2, k2, b3, k3, by rw [hn], r1, r2, r3⟩
      rw [hn] at hv1 hv2 hv3 hl1 hl4
      obtain ⟨d0, d1, d2, _, _⟩ := hM4'.box.cells
      rw [hv1] at d0
      rw [hv2] at d1
      rw [hv3] at d2
      have hbx4 : w4.heap[w.heap.size]? = some (.cells #[.slice none 0 0, .slice none 0 0, .slice none 0 0] 27 (0, 0)) := by
        rw [hb4.block _ (by have := HWB.out; have := Hg.out; omega)]
        exact Hbx.out
      have HB4 : Hid (Below w.heap.size w w4) := Lib.hid (HB1.out.trans (hb4.mono (by have := HWB.out; have := Hg.out; omega)))
      have hgl := hM4'.box.lt
      have hright := trie_Right (some ⟨b1, 0, none⟩) n k1 (some ⟨b2, 0, none⟩) n k2 (some ⟨b3, 0, none⟩) n k3 w4
      rw [mayBe_eq.2 ⟨hl1, hl4, rfl, rfl⟩] at hright
      have HD := Lib.hid (And.intro d0 (And.intro d1 d2))
      have Hbx4 := Lib.hid hbx4
      clear hbs c0 c1 c2 f0 hlay hM4 hM4' hS4 e1 e2 e3 e4 hb4 hlb hlw hl1 hl4 hv1 hv2 hv3 r1 r2 r3 hn hbx4
      dsimp only
      repeat' (first | go_values | go_skip | go_guarded | go_step | go_upon)
      refine Calls.mono hright ?_
      rintro _ w5 ⟨rfl, hb5⟩
      have d0 : w5.cell? ⟨g, 0, none⟩ = some (.slice (some ⟨b1, 0, none⟩) n k1) := by rw [hb5.cell hgl]; exact HD.out.1
      have d1 : w5.cell? ⟨g, 1, none⟩ = some (.slice (some ⟨b2, 0, none⟩) n k2) := by rw [hb5.cell hgl]; exact HD.out.2.1
      have d2 : w5.cell? ⟨g, 2, none⟩ = some (.slice (some ⟨b3, 0, none⟩) n k3) := by rw [hb5.cell hgl]; exact HD.out.2.2
      have Hbx5 := Lib.hid (show w5.heap[w.heap.size]? = some (.cells #[.slice none 0 0, .slice none 0 0, .slice none 0 0] 27 (0, 0)) by
        rw [hb5.block _ (Array.getElem?_eq_some_iff.1 Hbx4.out).1]; exact Hbx4.out)
      have HTV5 := Lib.hid (HTV.out.keep hb5)
      have HB5 := Lib.hid (HB4.out.trans (hb5.mono HB4.out.size))
      have c0 : w5.cell? ⟨w.heap.size, 0, none⟩ = some (.slice none 0 0) := by rw [cell_of_row w5 w.heap.size 0 _ _ _ Hbx5.out]; rfl
      have c1 : w5.cell? ⟨w.heap.size, 1, none⟩ = some (.slice none 0 0) := by rw [cell_of_row w5 w.heap.size 1 _ _ _ Hbx5.out]; rfl
      have c2 : w5.cell? ⟨w.heap.size, 2, none⟩ = some (.slice none 0 0) := by rw [cell_of_row w5 w.heap.size 2 _ _ _ Hbx5.out]; rfl
      have f0 : ∀ k, w5.frozen? ⟨w.heap.size, k, none⟩ = false := fun k => frozen_of_row _ _ _ _ _ Hbx5.out
      have HB5' := Lib.hid hb5
      clear hright hb5
      dsimp only
      repeat' (first | go_values | go_skip | go_guarded | go_step | go_upon)
      refine bodyPost_ret (results_tri rfl _ _ w.heap.size _ _ _ rfl (set3 Hbx5.out)) rfl ?_
      refine ⟨((HB5.out.setCell (p := ⟨w.heap.size, 0, none⟩) (Nat.le_refl _) _).setCell (p := ⟨w.heap.size, 1, none⟩) (Nat.le_refl _) _).setCell (p := ⟨w.heap.size, 2, none⟩) (Nat.le_refl _) _, .inr (.inr ⟨Hl.out, Hd.out, _, rfl, b1, k1, b2, k2, b3, k3, by rw [Hn.out], ?_, ?_, ?_⟩)⟩
      · exact (((HR.out.1.keep HB5'.out).setOther Hbs.out.1).setOther Hbs.out.1).setOther Hbs.out.1
      · exact (((HR.out.2.1.keep HB5'.out).setOther Hbs.out.2.1).setOther Hbs.out.2.1).setOther Hbs.out.2.1
      · exact (((HR.out.2.2.keep HB5'.out).setOther Hbs.out.2.2).setOther Hbs.out.2.2).setOther Hbs.out.2.2
    · rw [if_pos hd] at ht
      subst ht
      have Hl := Lib.hid hl
      have Hd := Lib.hid hd
      clear hl hd hfew
      dsimp only
      repeat' (first | go_values | go_skip | go_guarded | go_step | go_upon)
      refine bodyPost_ret (results_tri rfl _ _ w.heap.size _ _ _ rfl (set3 Hbx.out)) rfl ?_
      exact ⟨((HB1.out.setCell (p := ⟨w.heap.size, 0, none⟩) (Nat.le_refl _) _).setCell (p := ⟨w.heap.size, 1, none⟩) (Nat.le_refl _) _).setCell (p := ⟨w.heap.size, 2, none⟩) (Nat.le_refl _) _, .inr (.inl ⟨Hl.out, Hd.out, rfl⟩)⟩
end Go.Proofs.Ytndekogkfbhabaa
