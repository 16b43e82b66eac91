/- Walk: the document's depth, up to so many (ref Deep). Conditions: the bound is at most 1000. -/
import Derived.Test.YtnbfifmnigeolaaDoorReNodes
namespace Go.Proofs.YtnbfifmnigeolaaDoor
open Go.RowKit Go.Lib
section
variable {h : Nat} (IH : ∀ (r : RN) (t : Re) (m : Nat) (w : World), 1 ≤ m → m ≤ 1000 → ReAt w h r t → Calls Tryd.prog 21 #[reV r, .int .i64 m] w fun e w' => e = .returned (.int .i64 (min (dep h t) m : Nat)) ∧ Below w.heap.size w w')
include IH
set_option maxRecDepth 100000 in
theorem rdeep_next (r : RN) (t : Re) (m : Nat) (w : World) (hm1 : 1 ≤ m) (hm : m ≤ 1000) (hr : ReAt w (h + 1) r t) :
    Calls Tryd.prog 21 #[reV r, .int .i64 m] w fun e w' => e = .returned (.int .i64 (min (dep (h + 1) t) m : Nat)) ∧ Below w.heap.size w w' := by
  have HB : Hid (Below w.heap.size w (w.alloc (.cells (reC r).toArray 28))) := Lib.hid ((Below.refl _ _).alloc (Nat.le_refl _) _)
  obtain ⟨rs, hrow, hlen, hk⟩ := hr.kids
  have hl := hrow.lenOk
  obtain ⟨a, cap, hv, _, _, hc⟩ := hrow.open reC_length
  obtain ⟨rk, rset, rmn, rmx, rv⟩ := r
  simp only at hv
  subst hv
  obtain ⟨N, hN⟩ : ∃ N : Nat, min (dep (h + 1) t) m = N := ⟨_, rfl⟩
  rw [hN]
  rw [dep] at hN
  have HN := Lib.hid hN
  have HL := Lib.hid hlen
  clear hN hlen hr
  simp only [reV, reC] at HB ⊢
  by_cases h1 : m ≤ 1
  · have h1' : (m : Int) ≤ 1 := by omega
    clear IH hk hc
    go_enter Tryd.func21, Tryd.ntmps21
    repeat' (first | go_values | go_skip | go_guarded | go_step | go_upon)
    go_ret
    refine ⟨?_, HB.out⟩
    have := HN.out
    rw [show m = N by omega]; rfl
  have h1' : ¬ (m : Int) ≤ 1 := by omega
  go_enter Tryd.func21, Tryd.ntmps21
  repeat' (first | go_values | go_skip | go_guarded | go_step | go_upon)
  go_loopw [5, 15] (fun s5 s15 w' => ∃ k n : Nat, s15 = .int .i64 k ∧ k ≤ rs.length ∧ s5 = .int .i64 n ∧ n + 1 < m ∧ Hid (n = depTo h t.kids k) ∧ Hid (Below w.heap.size w w')) (fun _ s15 _ => rs.length - (intOf s15).toNat)
  case atStart => exact ⟨0, 0, rfl, Nat.zero_le _, rfl, by omega, Lib.hid rfl, HB⟩
  case round =>
    obtain ⟨k, n, rfl, hkl, rfl, hn1, HC, HW⟩ := hrel
    by_cases hlt : k < rs.length
    · have hlt' : (k : Int) < rs.length := by omega
      rcases hc with hc | ⟨b, off, rfl, hb, hc⟩
      · omega
      obtain ⟨r', hr'⟩ : ∃ r', rs[k]? = some r' := ⟨_, List.getElem?_eq_getElem hlt⟩
      obtain ⟨t', ht', hrt⟩ := hk k r' hr'
      obtain ⟨c0, c1, c2, c3, c4, c5, c6, c7⟩ := (row_load hc hr').keep HW.out hb
      have HBr : Hid (Below wr.heap.size wr (wr.alloc (.cells (reC r').toArray 28))) := Lib.hid ((Below.refl _ _).alloc (Nat.le_refl _) _)
      have hcall := IH r' t' (m - 1) _ (by omega) (by omega) (hrt.keep (HW.out.trans (HBr.out.mono HW.out.size)))
      rw [show ((m - 1 : Nat) : Int) = (m : Int) - 1 by omega] at hcall
      have Hs := Lib.hid (depTo_succ (h := h) ht')
      have Hle := Lib.hid (depTo_le (h := h) (l := t.kids) (k + 1))
      obtain ⟨x, hx⟩ : ∃ x : Nat, min (dep h t') (m - 1) = x := ⟨_, rfl⟩
      have hx1 : x + 1 ≤ m := by omega
      have Hx := Lib.hid hx
      rw [hx] at hcall
      have hone := hrt.one
      clear IH hk hc ht' hx
      simp only [reV, reC] at hcall HBr
      have HE : ∀ w1, Below (wr.alloc (.cells (reC r').toArray 28)).heap.size (wr.alloc (.cells (reC r').toArray 28)) w1 → Hid (Below w.heap.size w w1) := fun w1 hb1 => Lib.hid (HW.out.trans ((HBr.out.trans (hb1.mono HBr.out.size)).mono HW.out.size))
      simp only [reC] at HE
      have HE' := Lib.hid HE
      clear HE
      by_cases hxn : x > n
      · have hxn' : (x : Int) > n := by omega
        by_cases hxm : x + 1 = m
        · have hxm' : (x : Int) ≥ (m : Int) - 1 := by omega
          have Hxm := Lib.hid hxm
          clear hxm
          repeat' (first | (refine store_re (r := r') hone _ _ rfl rfl rfl rfl ?_; simp only [reC]) | go_values | go_skip | go_guarded | go_step | go_upon)
          refine Calls.mono (hcall) ?_
          rintro _ w1 ⟨rfl, hb1⟩
          dsimp only
          have HE := HE'.out w1 hb1
          clear hcall HE' hb1
          repeat' (first | go_values | go_skip | go_guarded | go_step | go_upon)
          go_ret
          refine ⟨?_, HE.out⟩
          have h1 := HN.out; have h2 := Hs.out; have h3 := Hle.out; have h4 := Hx.out; have h5 := HC.out; have h6 := Hxm.out
          rw [show m = N by omega]; rfl
        · have hxm' : ¬ (x : Int) ≥ (m : Int) - 1 := by omega
          repeat' (first | (refine store_re (r := r') hone _ _ rfl rfl rfl rfl ?_; simp only [reC]) | go_values | go_skip | go_guarded | go_step | go_upon)
          refine Calls.mono (hcall) ?_
          rintro _ w1 ⟨rfl, hb1⟩
          dsimp only
          have HE := HE'.out w1 hb1
          clear hcall HE' hb1
          repeat' (first | go_values | go_skip | go_guarded | go_step | go_upon)
          go_roundw
          · exact ⟨k + 1, x, by go_num, by omega, rfl, by omega, Lib.hid (by have := Hs.out; have := HC.out; have := Hx.out; omega), HE⟩
          · simp [intOf]; omega
      · have hxn' : ¬ (x : Int) > n := by omega
        have hnm' : ¬ (n : Int) ≥ (m : Int) - 1 := by omega
        repeat' (first | (refine store_re (r := r') hone _ _ rfl rfl rfl rfl ?_; simp only [reC]) | go_values | go_skip | go_guarded | go_step | go_upon)
        refine Calls.mono (hcall) ?_
        rintro _ w1 ⟨rfl, hb1⟩
        dsimp only
        have HE := HE'.out w1 hb1
        clear hcall HE' hb1
        repeat' (first | go_values | go_skip | go_guarded | go_step | go_upon)
        go_roundw
        · exact ⟨k + 1, n, by go_num, by omega, rfl, by omega, Lib.hid (by have := Hs.out; have := HC.out; have := Hx.out; omega), HE⟩
        · simp [intOf]; omega
    · have hlt' : ¬ (k : Int) < rs.length := by omega
      have Hk : Hid (k = rs.length) := Lib.hid (by omega)
      clear IH hk hc
      repeat' (first | go_values | go_skip | go_guarded | go_step | go_upon)
      go_ret
      refine ⟨?_, HW.out⟩
      have h1 := HC.out
      have h2 := depTo_all (h := h) (l := t.kids)
      have h3 := HN.out
      rw [Hk.out, HL.out, h2] at h1
      rw [show N = n + 1 by omega]; rfl
end
/-- how deep, up to so many -/
theorem ref_deep : ∀ (h : Nat) (r : RN) (t : Re) (m : Nat) (w : World), 1 ≤ m → m ≤ 1000 → ReAt w h r t → Calls Tryd.prog 21 #[reV r, .int .i64 m] w fun e w' => e = .returned (.int .i64 (min (dep h t) m : Nat)) ∧ Below w.heap.size w w'
  | 0, _, _, _, _, _, _, hr => hr.elim
  | _ + 1, r, t, m, w, h1, hm, hr => rdeep_next (ref_deep _) r t m w h1 hm hr
end Go.Proofs.YtnbfifmnigeolaaDoor
