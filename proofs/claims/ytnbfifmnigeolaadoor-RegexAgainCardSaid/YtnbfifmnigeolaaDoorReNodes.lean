/- Walks: how many nodes a tree has, up to so many (regex.nodes, and the document's). Conditions: the bound is at most 1000. -/
import Derived.Test.YtnbfifmnigeolaaDoorReDeep
namespace Go.Proofs.YtnbfifmnigeolaaDoor
open Go.RowKit Go.Lib
section
variable {h : Nat} (IH : ∀ (r : RN) (t : Re) (m : Nat) (w : World), m ≤ 1000 → ReAt w h r t → Calls Tryd.prog 19 #[reV r, .int .i64 m] w fun e w' => e = .returned (.int .i64 (min (cnt h t) (m + 1) : Nat)) ∧ Below w.heap.size w w')
include IH
set_option maxRecDepth 100000 in
theorem nodes_next (r : RN) (t : Re) (m : Nat) (w : World) (hm : m ≤ 1000) (hr : ReAt w (h + 1) r t) :
    Calls Tryd.prog 19 #[reV r, .int .i64 m] w fun e w' => e = .returned (.int .i64 (min (cnt (h + 1) t) (m + 1) : Nat)) ∧ Below w.heap.size w w' := by
  have HB : Hid (Below w.heap.size w (w.alloc (.cells (reC r).toArray 28))) := Lib.hid ((Below.refl _ _).alloc (Nat.le_refl _) _)
  obtain ⟨rs, hrow, hlen, hk⟩ := hr.kids
  have hl := hrow.lenOk
  obtain ⟨a, cap, hv, _, _, hc⟩ := hrow.open reC_length
  obtain ⟨rk, rset, rmn, rmx, rv⟩ := r
  simp only at hv
  subst hv
  obtain ⟨N, hN⟩ : ∃ N : Nat, min (cnt (h + 1) t) (m + 1) = N := ⟨_, rfl⟩
  rw [hN]
  rw [cnt] at hN
  have HN := Lib.hid hN
  have HL := Lib.hid hlen
  clear hN hlen hr
  simp only [reV, reC] at HB ⊢
  go_enter Tryd.func19, Tryd.ntmps19
  repeat' (first | go_values | go_skip | go_guarded | go_step | go_upon)
  go_loopw [5, 11] (fun s5 s11 w' => ∃ k n : Nat, s11 = .int .i64 k ∧ k ≤ rs.length ∧ s5 = .int .i64 n ∧ 1 ≤ n ∧ n ≤ m + 1 ∧ Hid (n = min (1 + cntTo h t.kids k) (m + 1)) ∧ Hid (Below w.heap.size w w')) (fun _ s11 _ => rs.length - (intOf s11).toNat)
  case atStart => exact ⟨0, 1, rfl, Nat.zero_le _, rfl, Nat.le_refl _, by omega, Lib.hid (by rw [cntTo_zero]; omega), HB⟩
  case round =>
    obtain ⟨k, n, rfl, hkl, rfl, hn1, hn2, HC, HW⟩ := hrel
    by_cases hlt : k < rs.length
    · have hlt' : (k : Int) < rs.length := by omega
      rcases hc with hc | ⟨b, off, rfl, hb, hc⟩
      · omega
      obtain ⟨r', hr'⟩ : ∃ r', rs[k]? = some r' := ⟨_, List.getElem?_eq_getElem hlt⟩
      obtain ⟨t', ht', hrt⟩ := hk k r' hr'
      obtain ⟨c0, c1, c2, c3, c4, c5, c6, c7⟩ := (row_load hc hr').keep HW.out hb
      by_cases hnm : n ≤ m
      · have hnm' : ¬ (n : Int) > m := by omega
        have HBr : Hid (Below wr.heap.size wr (wr.alloc (.cells (reC r').toArray 28))) := Lib.hid ((Below.refl _ _).alloc (Nat.le_refl _) _)
        have hcall := IH r' t' (m - n) _ (by omega) (hrt.keep (HW.out.trans (HBr.out.mono HW.out.size)))
        rw [show ((m - n : Nat) : Int) = (m : Int) - n by omega] at hcall
        have Hs := Lib.hid (cntTo_succ (h := h) ht')
        obtain ⟨x, hx⟩ : ∃ x : Nat, min (cnt h t') (m - n + 1) = x := ⟨_, rfl⟩
        have hxm : x ≤ m - n + 1 := by omega
        have hx2 : x ≤ 1001 := by omega
        have Hx := Lib.hid hx
        rw [hx] at hcall
        have hone := hrt.one
        clear IH hk hc ht' hx
        have Hxm := Lib.hid hxm
        clear hxm
        simp only [reV, reC] at hcall HBr
        repeat' (first | (refine store_re (r := r') hone _ _ rfl rfl rfl rfl ?_; simp only [reC]) | go_values | go_skip | go_guarded | go_step | go_upon)
        refine Calls.mono (hcall) ?_
        rintro _ w1 ⟨rfl, hb1⟩
        dsimp only
        clear hcall
        repeat' (first | go_values | go_skip | go_guarded | go_step | go_upon)
        go_roundw
        · exact ⟨k + 1, n + x, by go_num, by omega, by go_num, by omega, by have := Hxm.out; omega, Lib.hid (by have := Hs.out; have := HC.out; have := Hx.out; omega), Lib.hid (HW.out.trans ((HBr.out.trans (hb1.mono HBr.out.size)).mono HW.out.size))⟩
        · simp [intOf]; omega
      · have hnm' : (n : Int) > m := by omega
        have hone := (hk k r' hr')
        obtain ⟨_, _, hrt'⟩ := hone
        have hone := hrt'.one
        have HBr : Hid (Below wr.heap.size wr (wr.alloc (.cells (reC r').toArray 28))) := Lib.hid ((Below.refl _ _).alloc (Nat.le_refl _) _)
        clear IH hk hc
        simp only [reC] at HBr
        repeat' (first | (refine store_re (r := r') hone _ _ rfl rfl rfl rfl ?_; simp only [reC]) | go_values | go_skip | go_guarded | go_step | go_upon)
        go_ret
        refine ⟨?_, HW.out.trans (HBr.out.mono HW.out.size)⟩
        have h1 := HC.out
        have h2 := cntTo_le (h := h) (l := t.kids) k
        have h3 := HN.out
        rw [show n = N by omega]; rfl
    · have hlt' : ¬ (k : Int) < rs.length := by omega
      have Hk : Hid (k = rs.length) := Lib.hid (by omega)
      clear IH hk hc
      repeat' (first | go_values | go_skip | go_guarded | go_step | go_upon)
      go_ret
      refine ⟨?_, HW.out⟩
      have h1 := HC.out
      have h2 := cntTo_all (h := h) (l := t.kids)
      have h3 := HN.out
      rw [Hk.out, HL.out, h2] at h1
      rw [show n = N by omega]; rfl
end
/-- how many nodes, up to so many and one -/
theorem regex_nodes : ∀ (h : Nat) (r : RN) (t : Re) (m : Nat) (w : World), m ≤ 1000 → ReAt w h r t → Calls Tryd.prog 19 #[reV r, .int .i64 m] w fun e w' => e = .returned (.int .i64 (min (cnt h t) (m + 1) : Nat)) ∧ Below w.heap.size w w'
  | 0, _, _, _, _, _, hr => hr.elim
  | _ + 1, r, t, m, w, hm, hr => nodes_next (regex_nodes _) r t m w hm hr
section
variable {h : Nat} (IH : ∀ (r : RN) (t : Re) (m : Nat) (w : World), 1 ≤ m → m ≤ 1000 → ReAt w h r t → Calls Tryd.prog 22 #[reV r, .int .i64 m] w fun e w' => e = .returned (.int .i64 (min (cnt h t) m : Nat)) ∧ Below w.heap.size w w')
include IH
set_option maxRecDepth 100000 in
theorem rnodes_next (r : RN) (t : Re) (m : Nat) (w : World) (hm1 : 1 ≤ m) (hm : m ≤ 1000) (hr : ReAt w (h + 1) r t) :
    Calls Tryd.prog 22 #[reV r, .int .i64 m] w fun e w' => e = .returned (.int .i64 (min (cnt (h + 1) t) m : Nat)) ∧ Below w.heap.size w w' := by
  have HB : Hid (Below w.heap.size w (w.alloc (.cells (reC r).toArray 28))) := Lib.hid ((Below.refl _ _).alloc (Nat.le_refl _) _)
  obtain ⟨rs, hrow, hlen, hk⟩ := hr.kids
  have hl := hrow.lenOk
  obtain ⟨a, cap, hv, _, _, hc⟩ := hrow.open reC_length
  obtain ⟨rk, rset, rmn, rmx, rv⟩ := r
  simp only at hv
  subst hv
  obtain ⟨N, hN⟩ : ∃ N : Nat, min (cnt (h + 1) t) m = N := ⟨_, rfl⟩
  rw [hN]
  rw [cnt] at hN
  have HN := Lib.hid hN
  have HL := Lib.hid hlen
  clear hN hlen hr
  simp only [reV, reC] at HB ⊢
  go_enter Tryd.func22, Tryd.ntmps22
  repeat' (first | go_values | go_skip | go_guarded | go_step | go_upon)
  go_loopw [5, 11] (fun s5 s11 w' => ∃ k n : Nat, s11 = .int .i64 k ∧ k ≤ rs.length ∧ s5 = .int .i64 n ∧ 1 ≤ n ∧ n ≤ m ∧ Hid (n = min (1 + cntTo h t.kids k) m) ∧ Hid (Below w.heap.size w w')) (fun _ s11 _ => rs.length - (intOf s11).toNat)
  case atStart => exact ⟨0, 1, rfl, Nat.zero_le _, rfl, Nat.le_refl _, by omega, Lib.hid (by rw [cntTo_zero]; omega), HB⟩
  case round =>
    obtain ⟨k, n, rfl, hkl, rfl, hn1, hn2, HC, HW⟩ := hrel
    by_cases hlt : k < rs.length
    · have hlt' : (k : Int) < rs.length := by omega
      rcases hc with hc | ⟨b, off, rfl, hb, hc⟩
      · omega
      obtain ⟨r', hr'⟩ : ∃ r', rs[k]? = some r' := ⟨_, List.getElem?_eq_getElem hlt⟩
      obtain ⟨t', ht', hrt⟩ := hk k r' hr'
      obtain ⟨c0, c1, c2, c3, c4, c5, c6, c7⟩ := (row_load hc hr').keep HW.out hb
      by_cases hnm : n < m
      · have hnm' : ¬ (n : Int) ≥ m := by omega
        have HBr : Hid (Below wr.heap.size wr (wr.alloc (.cells (reC r').toArray 28))) := Lib.hid ((Below.refl _ _).alloc (Nat.le_refl _) _)
        have hcall := IH r' t' (m - n) _ (by omega) (by omega) (hrt.keep (HW.out.trans (HBr.out.mono HW.out.size)))
        rw [show ((m - n : Nat) : Int) = (m : Int) - n by omega] at hcall
        have Hs := Lib.hid (cntTo_succ (h := h) ht')
        obtain ⟨x, hx⟩ : ∃ x : Nat, min (cnt h t') (m - n) = x := ⟨_, rfl⟩
        have hxm : x ≤ m - n := by omega
        have hx2 : x ≤ 1001 := by omega
        have Hx := Lib.hid hx
        rw [hx] at hcall
        have hone := hrt.one
        clear IH hk hc ht' hx
        have Hxm := Lib.hid hxm
        clear hxm
        simp only [reV, reC] at hcall HBr
        repeat' (first | (refine store_re (r := r') hone _ _ rfl rfl rfl rfl ?_; simp only [reC]) | go_values | go_skip | go_guarded | go_step | go_upon)
        refine Calls.mono (hcall) ?_
        rintro _ w1 ⟨rfl, hb1⟩
        dsimp only
        clear hcall
        repeat' (first | go_values | go_skip | go_guarded | go_step | go_upon)
        go_roundw
        · exact ⟨k + 1, n + x, by go_num, by omega, by go_num, by omega, by have := Hxm.out; omega, Lib.hid (by have := Hs.out; have := HC.out; have := Hx.out; omega), Lib.hid (HW.out.trans ((HBr.out.trans (hb1.mono HBr.out.size)).mono HW.out.size))⟩
        · simp [intOf]; omega
      · have hnm' : (n : Int) ≥ m := by omega
        have hone := (hk k r' hr')
        obtain ⟨_, _, hrt'⟩ := hone
        have hone := hrt'.one
        have HBr : Hid (Below wr.heap.size wr (wr.alloc (.cells (reC r').toArray 28))) := Lib.hid ((Below.refl _ _).alloc (Nat.le_refl _) _)
        clear IH hk hc
        simp only [reC] at HBr
        repeat' (first | (refine store_re (r := r') hone _ _ rfl rfl rfl rfl ?_; simp only [reC]) | go_values | go_skip | go_guarded | go_step | go_upon)
        go_ret
        refine ⟨?_, HW.out.trans (HBr.out.mono HW.out.size)⟩
        have h1 := HC.out
        have h2 := cntTo_le (h := h) (l := t.kids) k
        have h3 := HN.out
        rw [show m = N by omega]; rfl
    · have hlt' : ¬ (k : Int) < rs.length := by omega
      have Hk : Hid (k = rs.length) := Lib.hid (by omega)
      clear IH hk hc
      repeat' (first | go_values | go_skip | go_guarded | go_step | go_upon)
      go_ret
      refine ⟨?_, HW.out⟩
      have h1 := HC.out
      have h2 := cntTo_all (h := h) (l := t.kids)
      have h3 := HN.out
      rw [Hk.out, HL.out, h2] at h1
      rw [show n = N by omega]; rfl
end
/-- how many nodes, up to so many -/
theorem ref_nodes : ∀ (h : Nat) (r : RN) (t : Re) (m : Nat) (w : World), 1 ≤ m → m ≤ 1000 → ReAt w h r t → Calls Tryd.prog 22 #[reV r, .int .i64 m] w fun e w' => e = .returned (.int .i64 (min (cnt h t) m : Nat)) ∧ Below w.heap.size w w'
  | 0, _, _, _, _, _, _, hr => hr.elim
  | _ + 1, r, t, m, w, h1, hm, hr => rnodes_next (ref_nodes _) r t m w h1 hm hr
end Go.Proofs.YtnbfifmnigeolaaDoor
