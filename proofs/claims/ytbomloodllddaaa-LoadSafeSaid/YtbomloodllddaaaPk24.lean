/- Walks: sections are written as a pack (pack.Put, fretsawref04.Put, their sizes). Condition: each body is of at most 2^47 bytes. -/
import Derived.Test.YtbomloodllddaaaPk20
import Derived.Test.YtbomloodllddaaaPk08
import Derived.Test.YtbomloodllddaaaPk01
import Derived.Test.YtbomloodllddaaaPk06
import Derived.Test.YtbomloodllddaaaPk03
namespace Go.Proofs.Ytbomloodllddaaa
open Go.RowKit
/-- a section's cells -/
def secC (x : Sec) : List Value := [.int .u64 (x.1 : Nat), .string ⟨x.2.toArray⟩]
theorem secC_len (x : Sec) : (secC x).length = 2 := rfl
/-- what may be of a section -/
def SecOk (x : Sec) : Prop := U64 x.1 ∧ x.2.length ≤ 140737488351232
def SecsOk (l : List Sec) : Prop := ∀ x ∈ l, SecOk x
/-- the sum of the bodies' lengths, as the program counts -/
def wsum (l : List Sec) : Nat → Int
  | 0 => 0
  | k + 1 => wrap64 (wsum l k + ((l.getD k (0, [])).2.length : Nat))
theorem take_get {α : Type} (l : List α) (d : α) (k : Nat) (h : k < l.length) : l.take (k + 1) = l.take k ++ [l.getD k d] := by
  rw [List.take_succ_eq_append_getElem h]; simp [List.getD, h]
theorem sizeS_take (l : List Sec) (k : Nat) (h : k < l.length) : sizeS (l.take (k + 1)) = sizeS (l.take k) + (l.getD k (0, [])).2.length := by
  rw [take_get l (0, []) k h, sizeS_append]; simp [sizeS]
theorem sizeS_bound {l : List Sec} (hl : SecsOk l) : ∀ k, k ≤ l.length → sizeS (l.take k) ≤ k * 140737488351232
  | 0, _ => by simp [sizeS]
  | k + 1, h => by
    rw [sizeS_take l k (by omega)]
    have h1 := sizeS_bound hl k (by omega)
    have h2 : (l.getD k (0, [])).2.length ≤ 140737488351232 := by
      have : l.getD k (0, []) ∈ l := by rw [List.getD_eq_getElem?_getD, List.getElem?_eq_getElem (by omega)]; exact List.getElem_mem _
      exact (hl _ this).2
    omega
theorem wsum_small {l : List Sec} (hl : SecsOk l) (h64 : l.length ≤ 64) : ∀ k, k ≤ l.length → wsum l k = (sizeS (l.take k) : Nat)
  | 0, _ => by simp [wsum, sizeS]
  | k + 1, h => by
    rw [wsum, wsum_small hl h64 k (by omega), sizeS_take l k (by omega)]
    have h1 := sizeS_bound hl (k + 1) h
    rw [sizeS_take l k (by omega)] at h1
    have h2 : (k + 1) * 140737488351232 ≤ 64 * 140737488351232 := Nat.mul_le_mul_right _ (by omega)
    rw [IntWalk.wrap64_in _ (by omega)]
    omega
theorem wsum_i64 (l : List Sec) : ∀ k, I64 (wsum l k)
  | 0 => by unfold wsum I64; omega
  | k + 1 => by rw [wsum]; unfold I64 wrap64; omega
theorem Row2.cells {w : World} {b off : Nat} {l : List Sec} (h : ∀ (i : Nat) (x : Sec) (j : Nat), l[i]? = some x → j < 2 → w.cell? ⟨b, off + (i * 2 + j), none⟩ = (secC x)[j]?) (k : Nat) (hk : k < l.length) :
    w.cell? ⟨b, off + k * 2, none⟩ = some (.int .u64 ((l.getD k (0, [])).1 : Nat)) ∧ w.cell? ⟨b, off + k * 2 + 1, none⟩ = some (.string ⟨(l.getD k (0, [])).2.toArray⟩) := by
  have hx : l[k]? = some (l.getD k (0, [])) := by rw [List.getD_eq_getElem?_getD, List.getElem?_eq_getElem hk]; rfl
  exact ⟨by simpa [secC] using h k _ 0 hx (by omega), by simpa [secC, ← Nat.add_assoc] using h k _ 1 hx (by omega)⟩
theorem SecsOk.at {l : List Sec} (h : SecsOk l) {k : Nat} (hk : k < l.length) : U64 (l.getD k (0, [])).1 ∧ (l.getD k (0, [])).2.length ≤ 140737488351232 := by
  apply h
  rw [List.getD_eq_getElem?_getD, List.getElem?_eq_getElem hk]; exact List.getElem_mem _
theorem ba_size (l : List UInt8) : (⟨l.toArray⟩ : ByteArray).size = l.length := by simp [ByteArray.size]
/-- what is written behind k sections -/
def packTo (l : List Sec) (k : Nat) : List UInt8 := begB ++ vput l.length ++ (l.take k).flatMap psec
theorem packTo_succ (l : List Sec) (k : Nat) (h : k < l.length) : packTo l (k + 1) = packTo l k ++ vput (l.getD k (0, [])).1 ++ (vput (l.getD k (0, [])).2.length ++ (l.getD k (0, [])).2) := by
  unfold packTo; rw [take_get l (0, []) k h, List.flatMap_append]; simp [psec]
theorem packTo_all (l : List Sec) : packTo l l.length = packB l := by unfold packTo packB; rw [List.take_length]
theorem packTo_len {l : List Sec} (hl : SecsOk l) (h64 : l.length ≤ 64) : ∀ k, k ≤ l.length → (packTo l k).length ≤ 15 + 20 * k + sizeS (l.take k)
  | 0, _ => by
    have := vput_len10 (u64_small (n := l.length) (by omega))
    simp [packTo, begB, sizeS]; omega
  | k + 1, h => by
    have h1 := packTo_len hl h64 k (by omega)
    obtain ⟨o1, o2⟩ := hl.at (k := k) (by omega)
    have h2 := vput_len10 o1
    have h3 := vput_len10 (u64_small (n := (l.getD k (0, [])).2.length) (by omega))
    rw [packTo_succ l k (by omega), sizeS_take l k (by omega)]
    simp only [List.length_append]
    omega
/-- a variable of two cells that was just laid -/
def Box2 (w w' : World) (u v : Value) (t : TypeId) : Prop := Below w.heap.size w w' ∧ w'.heap[w.heap.size]? = some (.cells #[u, v] t (0, 0))
theorem Box2.alloc (w : World) (u v : Value) (t : TypeId) : Box2 w (w.alloc (.cells #[u, v] t)) u v t := ⟨(Below.refl _ _).alloc (Nat.le_refl _) _, Go.heap_alloc_new w _⟩
theorem two_c0 {w : World} {g : Nat} {u v : Value} {t : TypeId} (h : w.heap[g]? = some (.cells #[u, v] t (0, 0))) : w.cell? ⟨g, 0, none⟩ = some u := by rw [cell_of_row w g 0 _ _ _ h]; rfl
theorem two_c1 {w : World} {g : Nat} {u v : Value} {t : TypeId} (h : w.heap[g]? = some (.cells #[u, v] t (0, 0))) : w.cell? ⟨g, 1, none⟩ = some v := by rw [cell_of_row w g 1 _ _ _ h]; rfl
theorem heap_lt {w : World} {g : Nat} {o : Obj} (h : w.heap[g]? = some o) : g < w.heap.size := (Array.getElem?_eq_some_iff.1 h).1
theorem heap_keep {w w' : World} {g : Nat} {o : Obj} (h : w.heap[g]? = some o) (hb : Below w.heap.size w w') : w'.heap[g]? = some o := by rw [hb.block g (heap_lt h)]; exact h
theorem gen_worldP {P : Program} {c : Code} {Q : Exit → Act → World → Prop} {a : Act} {w : World} (F : World → Prop) (hF : F w) (h : ∀ w', F w' → c.wp P Q a w') : c.wp P Q a w := h w hF
theorem arr_append (a b : List UInt8) : (⟨a.toArray⟩ : ByteArray) ++ ⟨b.toArray⟩ = ⟨(a ++ b).toArray⟩ := ba_append a ⟨b.toArray⟩
theorem ret_cat {a b : List UInt8} {k2 : IntKind} {a2 : Int} : Ending.returned (.tuple #[.string ((⟨a.toArray⟩ : ByteArray) ++ ⟨b.toArray⟩), .int k2 a2]) = Ending.returned (.tuple #[.string ⟨(a ++ b).toArray⟩, .int k2 a2]) := by rw [arr_append]
theorem beg_append (s : ByteArray) : (⟨#[70, 83, 65, 87, 1]⟩ : ByteArray) ++ s = ⟨(begB ++ s.data.toList).toArray⟩ := ba_append begB s
set_option maxRecDepth 100000 in
set_option maxHeartbeats 2000000 in
theorem pack_Put (v : Value) (l : List Sec) (w : World) (h : RowOf secC 2 w v l) (hl : SecsOk l) :
    Calls Try.prog 28 #[v] w fun e w' => e = .returned (.tuple #[.string ⟨(putP l).1.toArray⟩, .int .i64 (putP l).2]) ∧ Below w.heap.size w w' := by
  obtain ⟨a, cap, rfl, hcap, hmx, hcell⟩ := h.open secC_len
  obtain ⟨r, hr⟩ : ∃ r, putP l = r := ⟨_, rfl⟩
  rw [hr]
  have Hr := Lib.hid hr; clear hr
  obtain ⟨n, hn⟩ : ∃ n, l.length = n := ⟨_, rfl⟩
  rw [hn] at hcap hcell ⊢
  have Hn := Lib.hid hn; clear hn h
  unfold maxLen at hmx
  go_enter Try.func28, Try.ntmps28
  repeat' (first | go_values | go_skip | go_guarded | go_step | go_upon)
  go_loopw [4, 6, 13] (fun s3 _ s8 w' => ∃ k : Nat, s8 = .int .i64 k ∧ k ≤ n ∧ s3 = .int .i64 (wsum l k) ∧ Hid (Below w.heap.size w w')) (fun _ _ s8 _ => n - (intOf s8).toNat)
  case atStart => exact ⟨0, rfl, Nat.zero_le _, rfl, Lib.hid (Below.refl _ _)⟩
  case round =>
    obtain ⟨k, rfl, hk, rfl, Hb⟩ := hrel
    by_cases hlt : k < n
    · rcases hcell with h0 | ⟨b, off, rfl, hbB, hcell⟩
      · omega
      have hcs := Row2.cells hcell k (by rw [Hn.out]; exact hlt)
      have hok := hl.at (k := k) (by rw [Hn.out]; exact hlt)
      clear hcell
      have hws := wsum_i64 l k
      have hs : wsum l (k + 1) = wrap64 (wsum l k + ((l.getD k (0, [])).2.length : Nat)) := rfl
      obtain ⟨c0, c1⟩ := hcs
      rw [← Hb.out.cell (show b < w.heap.size from hbB)] at c0 c1
      generalize l.getD k (0, []) = x at c0 c1 hs hok
      obtain ⟨kind, body⟩ := x
      dsimp only at c0 c1 hs hok
      have hbs := ba_size body
      generalize wsum l k = y at hs hws
      have Hs := Lib.hid hs; clear hs
      have Hws := Lib.hid hws; clear hws
      repeat' (first | go_values | go_skip | go_guarded | go_step | go_upon)
      go_roundw
      case rel => exact ⟨k + 1, by go_num, hlt, by rw [Hs.out], Lib.hid (Hb.out.alloc (by have := Hb.out.size; omega) _)⟩
      case measure => simp [intOf]; omega
    · obtain rfl : k = n := by omega
      by_cases h64 : 64 < k
      · have e : r = ([], 2) := by rw [← Hr.out]; unfold putP; rw [if_pos (.inl (by rw [Hn.out]; exact h64))]
        subst e
        repeat' (first | go_values | go_skip | go_guarded | go_step | go_upon)
        go_ret2
        exact ⟨rfl, Hb.out⟩
      have hws := wsum_small hl (by rw [Hn.out]; omega) k (by rw [Hn.out]; exact Nat.le_refl _)
      have htk : l.take k = l := by rw [← Hn.out, List.take_length]
      rw [htk] at hws
      rw [hws]
      clear hws
      by_cases hsz : 8388608 < sizeS l
      · have e : r = ([], 2) := by rw [← Hr.out]; unfold putP; rw [if_pos (.inr hsz)]
        subst e
        generalize sizeS l = sz at hsz
        repeat' (first | go_values | go_skip | go_guarded | go_step | go_upon)
        go_ret2
        exact ⟨rfl, Hb.out⟩
      have Hr2 : Hid (r = if risesTo l k = true then (packB l ++ put4 (sumOn 0 (packB l)), 0) else ([], 1)) := Lib.hid (by rw [← Hr.out]; unfold putP; rw [if_neg (by rw [Hn.out]; omega), Hn.out])
      clear Hr
      have Hlen : Hid (∀ j, j ≤ k → (packTo l j).length ≤ 10000000) := Lib.hid fun j hj => by
        have h1 := packTo_len hl (by rw [Hn.out]; omega) j (by rw [Hn.out]; exact hj)
        have h2 := sizeS_take_le l j
        omega
      have hku := u64_small (n := k) (by omega)
      have hkw : IntKind.u64.wrap (k : Int) = k := wu64 (by omega) hku
      have hb0 := beg_append
      have hvl := vput_len10 hku
      generalize sizeS l = sz at hsz
      obtain ⟨wo, hwo⟩ : ∃ wo : World, wo = wr := ⟨_, rfl⟩
      subst hwo
      have Hbld := Lib.hid (Bld.fresh wo)
      repeat' (first | go_values | go_skip | go_guarded | go_step | go_upon)
      refine Calls.mono (wire_Put k _ hku) ?_
      rintro _ w1 ⟨rfl, hb1⟩
      dsimp only
      have hbld1 := Hbld.out.keep hb1 (Nat.le_refl _)
      have hs1 : wo.heap.size + 1 ≤ w1.heap.size := by have := hb1.size; simpa using this
      have Hb1 : Hid (Below wo.heap.size wo w1) := Lib.hid (((Below.refl _ _).alloc (Nat.le_refl _) _).trans (hb1.mono (by simp)))
      clear Hbld hb1
      repeat' (first | go_values | go_skip | go_guarded | go_step | go_upon)
      refine Calls.mono (bld_WriteString wo.heap.size wo.heap.size [] _ _ hbld1 (by simp [ByteArray.size, begB]; omega) (by omega)) ?_
      rintro _ w2 ⟨rfl, hbld2, hb2, _⟩
      dsimp only
      have Hb2 : Hid (Below w.heap.size w w2) := Lib.hid (Hb.out.trans ((Hb1.out.trans hb2).mono Hb.out.size))
      have Hbld2 : Hid (Bld w2 wo.heap.size wo.heap.size (packTo l 0)) := Lib.hid (by simpa [packTo, Hn.out] using hbld2)
      have hwo := Hb.out.size
      have hs2 : wo.heap.size + 1 ≤ w2.heap.size := Nat.le_trans hs1 hb2.size
      clear hbld1 Hb1 hbld2 hb2 hb0
      repeat' (first | go_values | go_skip | go_guarded | go_step | go_upon)
      go_loopw [8, 9, 38] (fun _ _ s38 w' => ∃ j : Nat, s38 = .int .i64 j ∧ j ≤ k ∧ Hid (Below w.heap.size w w') ∧ Hid (Bld w' wo.heap.size wo.heap.size (packTo l j)) ∧ Hid (risesTo l j = true)) (fun _ _ s38 _ => k - (intOf s38).toNat)
      case atStart => exact ⟨0, rfl, Nat.zero_le _, Hb2, Hbld2, Lib.hid rfl⟩
      case round =>
        clear Hb2 Hbld2 hs1 hs2
        obtain ⟨j, rfl, hj, Hb2, Hbld2, Hri⟩ := hrel
        by_cases hjk : j < k
        · rcases hcell with h0 | ⟨b, off, rfl, hbB, hcell⟩
          · omega
          obtain ⟨c0, c1⟩ := Row2.cells hcell j (by rw [Hn.out]; exact hjk)
          obtain ⟨ho1, ho2⟩ := hl.at (k := j) (by rw [Hn.out]; exact hjk)
          have Hps := Lib.hid (packTo_succ l j (by rw [Hn.out]; exact hjk))
          have Hrs := Lib.hid (risesTo_succ l j)
          have Hln := Lib.hid (Hlen.out (j + 1) hjk)
          have Hlj := Lib.hid (Hlen.out j hj)
          have Hcp := Lib.hid (fun i (hi : i < k) => (Row2.cells hcell i (by rw [Hn.out]; exact hi)).1)
          clear hcell
          rw [← Hb2.out.cell (show b < w.heap.size from hbB)] at c0 c1
          generalize l.getD j (0, []) = x at c0 c1 Hps Hrs ho1 ho2
          obtain ⟨kind, body⟩ := x
          dsimp only at c0 c1 ho1 ho2 Hps Hrs
          have hbs := ba_size body
          obtain ⟨wq, hwq⟩ : ∃ wq : World, wq = wr := ⟨_, rfl⟩
          subst hwq
          have Hcp2 : Hid (∀ i, i < k → wq.cell? ⟨b, off + i * 2, none⟩ = some (.int .u64 ((l.getD i (0, [])).1 : Nat))) := Lib.hid fun i hi => by
            rw [Hb2.out.cell (show b < w.heap.size from hbB)]; exact Hcp.out i hi
          clear Hcp
          have hbq : b < wq.heap.size := Nat.lt_of_lt_of_le hbB Hb2.out.size
          repeat' (first | go_values | go_skip | go_guarded | go_step | go_upon)
          refine gen_worldP (fun w' => Box2 wq w' (.int .u64 kind) (.string ⟨body.toArray⟩) 70) (Box2.alloc wq _ _ _) ?_
          rintro wx ⟨hbx, hx⟩
          have Hbx := Lib.hid hbx
          have Hx := Lib.hid hx
          clear hbx hx c0 c1
          have Hbldx := Lib.hid (Hbld2.out.keep Hbx.out (Nat.le_refl _))
          have Hbx2 := Lib.hid (Hb2.out.trans (Hbx.out.mono Hb2.out.size))
          have hxo : wo.heap.size ≤ wx.heap.size := by have := Hbldx.out.lt; omega
          have q0 : ∀ nq : WB wx, nq.1.cell? ⟨wq.heap.size, 0, none⟩ = some (.int .u64 kind) := fun nq => two_c0 (heap_keep Hx.out nq.2)
          have hcase : (j = 0 ∨ ∃ i, j = i + 1 ∧ (l.getD i (0, [])).1 < kind) ∨ ∃ i, j = i + 1 ∧ kind ≤ (l.getD i (0, [])).1 := by
            rcases Nat.eq_zero_or_pos j with h | h
            · exact .inl (.inl h)
            · rcases Nat.lt_or_ge (l.getD (j - 1) (0, [])).1 kind with h2 | h2
              · exact .inl (.inr ⟨j - 1, by omega, h2⟩)
              · exact .inr ⟨j - 1, by omega, h2⟩
          rcases hcase with hcase | ⟨i, rfl, hki⟩
          · have Hrt : Hid (risesTo l (j + 1) = true) := Lib.hid (by
              rw [Hrs.out, Hri.out]
              rcases hcase with rfl | ⟨i, rfl, h⟩
              · rfl
              · simpa using h)
            clear Hrs
            rcases hcase with rfl | ⟨i, rfl, hki⟩
            · repeat' (first | go_values | go_skip | go_guarded | go_step | go_upon)
              refine wp_region_wb (by kernel_rfl) (by kernel_rfl) wx (Below.refl _ _) ?_
              repeat (go_big_quiet_step ((fail)))
              refine wpQuiet_nil ?_
              rintro _ ⟨nq, rfl⟩
              have hnq := nq.2
              clear q0
              have Hxn := Lib.hid (heap_keep Hx.out hnq)
              have hbn := Hbldx.out.keep hnq (Nat.le_refl _)
              have Hbn := Lib.hid (Hbx2.out.trans (hnq.mono Hbx2.out.size))
              have n0 := two_c0 Hxn.out
              have n1 := two_c1 Hxn.out
              have hxg : wq.heap.size ≠ wo.heap.size := by have := Hbld2.out.lt; omega
              clear Hbldx hnq
              repeat' (first | go_values | go_skip | go_guarded | go_step | go_upon)
              clear n0 n1
              refine Calls.mono (wire_Put kind _ ho1) ?_
              rintro _ w3 ⟨rfl, hb3⟩
              dsimp only
              have hbld3 := hbn.keep hb3 (Nat.le_refl _)
              have Hx3 := Lib.hid (heap_keep Hxn.out hb3)
              have Hb3 := Lib.hid (Hbn.out.trans (hb3.mono Hbn.out.size))
              have hs3 : wo.heap.size ≤ w3.heap.size := by have := hbld3.lt; omega
              clear hbn Hxn Hbn hb3
              have hv1 := vput_len10 ho1
              have hlj := Hlj.out
              repeat' (first | go_values | go_skip | go_guarded | go_step | go_upon)
              refine Calls.mono (bld_WriteString wo.heap.size wo.heap.size _ _ _ hbld3 (by rw [ba_size]; omega) hs3) ?_
              rintro _ w4 ⟨rfl, hbld4, hb4, hap4⟩
              dsimp only
              have Hx4 := Lib.hid (hap4.row Hx3.out (by decide) hxg)
              have Hb4 := Lib.hid (Hb3.out.trans (hb4.mono hwo))
              clear hbld3 Hx3 Hb3 hb4 hap4 hs3
              have n1 := two_c1 Hx4.out
              repeat' (first | go_values | go_skip | go_guarded | go_step | go_upon)
              clear n1
              refine Calls.mono (wire_PutText ⟨body.toArray⟩ (by rw [ba_size]; omega) _) ?_
              rintro _ w5 ⟨rfl, hb5⟩
              dsimp only
              have hbld5 := hbld4.keep hb5 (Nat.le_refl _)
              have Hb5 := Lib.hid (Hb4.out.trans (hb5.mono Hb4.out.size))
              have hs5 : wo.heap.size ≤ w5.heap.size := by have := hbld5.lt; omega
              clear hbld4 Hb4 hb5
              have hlp := Hln.out
              rw [Hps.out] at hlp
              simp only [List.length_append] at hlp
              repeat' (first | go_values | go_skip | go_guarded | go_step | go_upon)
              refine Calls.mono (bld_WriteString wo.heap.size wo.heap.size _ _ _ hbld5 (by rw [ba_size]; simp; omega) hs5) ?_
              rintro _ w6 ⟨rfl, hbld6, hb6, _⟩
              dsimp only
              have Hbld6 : Hid (Bld w6 wo.heap.size wo.heap.size (packTo l (0 + 1))) := Lib.hid (by rw [Hps.out]; simpa [ba_size] using hbld6)
              have Hb6 := Lib.hid (Hb5.out.trans (hb6.mono hwo))
              clear hbld5 Hb5 hs5 hbld6 hb6
              repeat' (first | go_values | go_skip | go_guarded | go_step | go_upon)
              go_roundw
              case rel => exact ⟨0 + 1, by go_num, hjk, Hb6, Hbld6, Hrt⟩
              case measure => simp [intOf]; omega
            · have q1 : ∀ nq : WB wx, nq.1.cell? ⟨b, off + i * 2, none⟩ = some (.int .u64 ((l.getD i (0, [])).1 : Nat)) := fun nq => by
                rw [nq.cell (by dsimp only; omega), Hbx.out.cell hbq]; exact Hcp2.out i (by omega)
              generalize (l.getD i (0, [])).1 = prev at q1 hki
              repeat' (first | go_values | go_skip | go_guarded | go_step | go_upon)
              refine wp_region_wb (by kernel_rfl) (by kernel_rfl) wx (Below.refl _ _) ?_
              repeat (go_big_quiet_step ((fail)))
              refine wpQuiet_nil ?_
              rintro _ ⟨nq, rfl⟩
              have hnq := nq.2
              clear q0 q1
              have Hxn := Lib.hid (heap_keep Hx.out hnq)
              have hbn := Hbldx.out.keep hnq (Nat.le_refl _)
              have Hbn := Lib.hid (Hbx2.out.trans (hnq.mono Hbx2.out.size))
              have n0 := two_c0 Hxn.out
              have n1 := two_c1 Hxn.out
              have hxg : wq.heap.size ≠ wo.heap.size := by have := Hbld2.out.lt; omega
              clear Hbldx hnq
              repeat' (first | go_values | go_skip | go_guarded | go_step | go_upon)
              clear n0 n1
              refine Calls.mono (wire_Put kind _ ho1) ?_
              rintro _ w3 ⟨rfl, hb3⟩
              dsimp only
              have hbld3 := hbn.keep hb3 (Nat.le_refl _)
              have Hx3 := Lib.hid (heap_keep Hxn.out hb3)
              have Hb3 := Lib.hid (Hbn.out.trans (hb3.mono Hbn.out.size))
              have hs3 : wo.heap.size ≤ w3.heap.size := by have := hbld3.lt; omega
              clear hbn Hxn Hbn hb3
              have hv1 := vput_len10 ho1
              have hlj := Hlj.out
              repeat' (first | go_values | go_skip | go_guarded | go_step | go_upon)
              refine Calls.mono (bld_WriteString wo.heap.size wo.heap.size _ _ _ hbld3 (by rw [ba_size]; omega) hs3) ?_
              rintro _ w4 ⟨rfl, hbld4, hb4, hap4⟩
              dsimp only
              have Hx4 := Lib.hid (hap4.row Hx3.out (by decide) hxg)
              have Hb4 := Lib.hid (Hb3.out.trans (hb4.mono hwo))
              clear hbld3 Hx3 Hb3 hb4 hap4 hs3
              have n1 := two_c1 Hx4.out
              repeat' (first | go_values | go_skip | go_guarded | go_step | go_upon)
              clear n1
              refine Calls.mono (wire_PutText ⟨body.toArray⟩ (by rw [ba_size]; omega) _) ?_
              rintro _ w5 ⟨rfl, hb5⟩
              dsimp only
              have hbld5 := hbld4.keep hb5 (Nat.le_refl _)
              have Hb5 := Lib.hid (Hb4.out.trans (hb5.mono Hb4.out.size))
              have hs5 : wo.heap.size ≤ w5.heap.size := by have := hbld5.lt; omega
              clear hbld4 Hb4 hb5
              have hlp := Hln.out
              rw [Hps.out] at hlp
              simp only [List.length_append] at hlp
              repeat' (first | go_values | go_skip | go_guarded | go_step | go_upon)
              refine Calls.mono (bld_WriteString wo.heap.size wo.heap.size _ _ _ hbld5 (by rw [ba_size]; simp; omega) hs5) ?_
              rintro _ w6 ⟨rfl, hbld6, hb6, _⟩
              dsimp only
              have Hbld6 : Hid (Bld w6 wo.heap.size wo.heap.size (packTo l ((i + 1) + 1))) := Lib.hid (by rw [Hps.out]; simpa [ba_size] using hbld6)
              have Hb6 := Lib.hid (Hb5.out.trans (hb6.mono hwo))
              clear hbld5 Hb5 hs5 hbld6 hb6
              repeat' (first | go_values | go_skip | go_guarded | go_step | go_upon)
              go_roundw
              case rel => exact ⟨(i + 1) + 1, by go_num, hjk, Hb6, Hbld6, Hrt⟩
              case measure => simp [intOf]; omega
          · rw [show i + 1 - 1 = i from rfl] at Hrs
            have q1 : ∀ nq : WB wx, nq.1.cell? ⟨b, off + i * 2, none⟩ = some (.int .u64 ((l.getD i (0, [])).1 : Nat)) := fun nq => by
              rw [nq.cell (by dsimp only; omega), Hbx.out.cell hbq]; exact Hcp2.out i (by omega)
            generalize (l.getD i (0, [])).1 = prev at q1 hki Hrs
            repeat' (first | go_values | go_skip | go_guarded | go_step | go_upon)
            refine wp_region_wb (by kernel_rfl) (by kernel_rfl) wx (Below.refl _ _) ?_
            repeat (go_big_quiet_step ((fail)))
            refine wpQuiet_nil ?_
            rintro _ ⟨nq, rfl⟩
            have hnq := nq.2
            clear q0 q1
            have e : r = ([], 1) := by
              rw [Hr2.out, risesTo_false (k := i + 1 + 1) (by rw [Hrs.out, Hri.out]; simpa using hki) hjk, if_neg (by decide)]
            subst e
            repeat' (first | go_values | go_skip | go_guarded | go_step | go_upon)
            go_ret2
            exact ⟨rfl, Hbx2.out.trans (hnq.mono Hbx2.out.size)⟩
        · obtain rfl : j = k := by omega
          have hbld := Hbld2.out
          rw [show packTo l j = packB l from by rw [← packTo_all, Hn.out]] at hbld
          have hpl := Hlen.out j (Nat.le_refl _)
          rw [show packTo l j = packB l from by rw [← packTo_all, Hn.out]] at hpl
          have e : r = (packB l ++ put4 (sumOn 0 (packB l)), 0) := by rw [Hr2.out, Hri.out, if_pos rfl]
          subst e
          have hs2 : wo.heap.size ≤ wr.heap.size := by have := hbld.lt; omega
          clear Hbld2 Hri Hr2 Hlen
          generalize hpk : packB l = bs at hbld hpl
          have Hpk := Lib.hid hpk; clear hpk
          repeat' (first | go_values | go_skip | go_guarded | go_step | go_upon)
          refine Calls.mono (bld_String wo.heap.size wo.heap.size bs _ hbld hs2) ?_
          rintro _ w3 ⟨rfl, hb3⟩
          dsimp only
          have Hb3 := Lib.hid (Hb2.out.trans (hb3.mono hwo))
          clear hbld hb3
          repeat' (first | go_values | go_skip | go_guarded | go_step | go_upon)
          refine Calls.mono (sum_Of ⟨bs.toArray⟩ (by rw [ba_size]; omega) _) ?_
          rintro _ w4 ⟨rfl, hb4⟩
          dsimp only
          have Hb4 := Lib.hid (Hb3.out.trans (hb4.mono Hb3.out.size))
          clear Hb3 hb4
          have hp4 : (put4 (sumOn 0 bs)).length = 4 := rfl
          repeat' (first | go_values | go_skip | go_guarded | go_step | go_upon)
          refine Calls.mono (wire_PutFour (sumOn 0 bs) _) ?_
          rintro _ w5 ⟨rfl, hb5⟩
          dsimp only
          have Hb5 := Lib.hid (Hb4.out.trans (hb5.mono Hb4.out.size))
          clear Hb4 hb5
          generalize hfs : put4 (sumOn 0 bs) = fs at hp4 ⊢
          have Hfs := Lib.hid hfs; clear hfs
          repeat' (first | go_values | go_skip | go_guarded | go_step | go_upon)
          go_ret2
          exact ⟨by rw [Hpk.out, Hfs.out]; exact ret_cat, Hb5.out⟩
end Go.Proofs.Ytbomloodllddaaa
/- Walks: the reader of a pack (number, text, must). Conditions: the text is of at most 10^15 bytes; the place is an int. -/
namespace Go.Proofs.Ytbomloodllddaaa
open Go.RowKit
/-- a reader: its text, its place, what is wrong -/
def RdrAt (w : World) (g : Nat) (s : List UInt8) (at' bad : Int) : Prop := w.heap[g]? = some (.cells #[.string ⟨s.toArray⟩, .int .i64 at', .int .i64 bad] 143 (0, 0))
section
variable {w : World} {g : Nat} {s : List UInt8} {at' bad : Int}
theorem RdrAt.c0 (h : RdrAt w g s at' bad) : w.cell? ⟨g, 0, none⟩ = some (.string ⟨s.toArray⟩) := by rw [cell_of_row w g 0 _ _ _ h]; rfl
theorem RdrAt.c1 (h : RdrAt w g s at' bad) : w.cell? ⟨g, 1, none⟩ = some (.int .i64 at') := by rw [cell_of_row w g 1 _ _ _ h]; rfl
theorem RdrAt.c2 (h : RdrAt w g s at' bad) : w.cell? ⟨g, 2, none⟩ = some (.int .i64 bad) := by rw [cell_of_row w g 2 _ _ _ h]; rfl
theorem RdrAt.free (h : RdrAt w g s at' bad) (k : Nat) : w.frozen? ⟨g, k, none⟩ = false := frozen_of_row _ _ _ _ _ h
theorem RdrAt.lt (h : RdrAt w g s at' bad) : g < w.heap.size := (Array.getElem?_eq_some_iff.1 h).1
theorem RdrAt.keep {w' : World} (h : RdrAt w g s at' bad) (hb : Below w.heap.size w w') : RdrAt w' g s at' bad := by unfold RdrAt; rw [hb.block g h.lt]; exact h
theorem RdrAt.set1 (h : RdrAt w g s at' bad) (x : Int) : RdrAt (w.setCell ⟨g, 1, none⟩ (.int .i64 x)) g s x bad := by
  unfold RdrAt; rw [setCell_eq_setRow _ _ _ _ _ _ _ h, setRow_heap _ _ _ _ _ _ h]; simp
theorem RdrAt.set2 (h : RdrAt w g s at' bad) (x : Int) : RdrAt (w.setCell ⟨g, 2, none⟩ (.int .i64 x)) g s at' x := by
  unfold RdrAt; rw [setCell_eq_setRow _ _ _ _ _ _ _ h, setRow_heap _ _ _ _ _ _ h]; simp
end
set_option maxRecDepth 100000 in
set_option maxHeartbeats 400000 in
theorem rdr_number (g : Nat) (s : List UInt8) (hs : s.length ≤ 1000000000000000) (at' bad : Int) (ha : I64 at') (w : World) (h : RdrAt w g s at' bad) :
    Calls Try.prog 73 #[.pointer (some ⟨g, 0, none⟩)] w fun e w' => e = .returned (.int .u64 ((rdNum s at' bad).1 : Nat)) ∧ RdrAt w' g s (rdNum s at' bad).2.1 (rdNum s at' bad).2.2 ∧ Else g w w' := by
  unfold rdNum
  by_cases h0 : bad = 0
  · subst h0
    rw [if_neg (by simp)]
    have hc := wire_Get ⟨s.toArray⟩ (by rw [ba_size]; exact hs) at' ha
    have hd : (⟨s.toArray⟩ : ByteArray).data.toList = s := rfl
    rw [hd] at hc
    clear hd
    generalize vget s at' = r at hc ⊢
    obtain ⟨r1, r2, r3⟩ := r
    dsimp only at hc ⊢
    have Hc := Lib.hid hc; clear hc
    have c2 := h.c2
    have q0 : ∀ nq : WB w, nq.1.cell? ⟨g, 0, none⟩ = some (.string ⟨s.toArray⟩) := fun nq => (h.keep nq.2).c0
    have q1 : ∀ nq : WB w, nq.1.cell? ⟨g, 1, none⟩ = some (.int .i64 at') := fun nq => (h.keep nq.2).c1
    have H := Lib.hid h; clear h
    go_enter Try.func73, Try.ntmps73
    repeat' (first | go_values | go_skip | go_guarded | go_step | go_upon)
    refine wp_region_wb (by kernel_rfl) (by kernel_rfl) w (Below.refl _ _) ?_
    repeat (go_big_quiet_step ((go_at_call 107; exact calls_wb_same (Hc.out _))))
    refine wpQuiet_nil ?_
    rintro _ ⟨nq, rfl⟩
    have hnq := nq.2
    clear q0 q1
    have Hn := Lib.hid (H.out.keep hnq)
    have n1 := Hn.out.c1
    have n2 := Hn.out.c2
    have f1 := Hn.out.free 1
    have f2 := Hn.out.free 2
    have He := Lib.hid (Else.of_below (g := g) hnq)
    clear hnq c2 H
    repeat' (first | go_values | go_skip | go_guarded | go_step | go_upon)
    go_ret
    exact ⟨rfl, (Hn.out.set1 _).set2 _, (He.out.setCell _ _).setCell _ _⟩
  · rw [if_pos h0]
    have c2 := h.c2
    have h0' : (bad == 0) = false := by simpa using h0
    have h0'' : (bad != 0) = true := by simpa using h0
    have H := Lib.hid h; clear h
    go_enter Try.func73, Try.ntmps73
    repeat' (first | go_values | go_skip | go_guarded | go_step | go_upon)
    go_ret
    exact ⟨rfl, H.out, Else.refl _ _⟩
set_option maxRecDepth 100000 in
set_option maxHeartbeats 400000 in
theorem rdr_text (g : Nat) (s : List UInt8) (hs : s.length ≤ 1000000000000000) (at' bad : Int) (ha : I64 at') (w : World) (h : RdrAt w g s at' bad) :
    Calls Try.prog 74 #[.pointer (some ⟨g, 0, none⟩)] w fun e w' => e = .returned (.string ⟨(rdText s at' bad).1.toArray⟩) ∧ RdrAt w' g s (rdText s at' bad).2.1 (rdText s at' bad).2.2 ∧ Else g w w' := by
  unfold rdText
  by_cases h0 : bad = 0
  · subst h0
    rw [if_neg (by simp)]
    have hc := wire_GetText ⟨s.toArray⟩ (by rw [ba_size]; exact hs) at' ha 8388608 (i64_small (by omega))
    have hd : (⟨s.toArray⟩ : ByteArray).data.toList = s := rfl
    rw [hd] at hc
    clear hd
    generalize gett s at' 8388608 = r at hc ⊢
    obtain ⟨r1, r2, r3⟩ := r
    dsimp only at hc ⊢
    have Hc := Lib.hid hc; clear hc
    have c2 := h.c2
    have q0 : ∀ nq : WB w, nq.1.cell? ⟨g, 0, none⟩ = some (.string ⟨s.toArray⟩) := fun nq => (h.keep nq.2).c0
    have q1 : ∀ nq : WB w, nq.1.cell? ⟨g, 1, none⟩ = some (.int .i64 at') := fun nq => (h.keep nq.2).c1
    have H := Lib.hid h; clear h
    go_enter Try.func74, Try.ntmps74
    repeat' (first | go_values | go_skip | go_guarded | go_step | go_upon)
    refine wp_region_wb (by kernel_rfl) (by kernel_rfl) w (Below.refl _ _) ?_
    repeat (go_big_quiet_step ((go_at_call 108; exact calls_wb_same (Hc.out _))))
    refine wpQuiet_nil ?_
    rintro _ ⟨nq, rfl⟩
    have hnq := nq.2
    clear q0 q1
    have Hn := Lib.hid (H.out.keep hnq)
    have n1 := Hn.out.c1
    have n2 := Hn.out.c2
    have f1 := Hn.out.free 1
    have f2 := Hn.out.free 2
    have He := Lib.hid (Else.of_below (g := g) hnq)
    clear hnq c2 H
    repeat' (first | go_values | go_skip | go_guarded | go_step | go_upon)
    go_ret
    exact ⟨rfl, (Hn.out.set1 _).set2 _, (He.out.setCell _ _).setCell _ _⟩
  · rw [if_pos h0]
    have c2 := h.c2
    have h0' : (bad == 0) = false := by simpa using h0
    have h0'' : (bad != 0) = true := by simpa using h0
    have H := Lib.hid h; clear h
    go_enter Try.func74, Try.ntmps74
    repeat' (first | go_values | go_skip | go_guarded | go_step | go_upon)
    go_ret
    exact ⟨rfl, H.out, Else.refl _ _⟩
set_option maxRecDepth 100000 in
set_option maxHeartbeats 400000 in
theorem rdr_must (g : Nat) (s : List UInt8) (at' bad : Int) (ok : Bool) (x : Int) (w : World) (h : RdrAt w g s at' bad) :
    Calls Try.prog 75 #[.pointer (some ⟨g, 0, none⟩), .bool ok, .int .i64 x] w fun e w' => e = .returned (.tuple #[]) ∧ RdrAt w' g s at' (rdMust ok x bad) ∧ Else g w w' := by
  unfold rdMust
  have c2 := h.c2
  have f2 := h.free 2
  have H := Lib.hid h; clear h
  by_cases h0 : bad = 0
  · subst h0
    cases ok
    · rw [if_pos ⟨rfl, rfl⟩]
      go_enter Try.func75, Try.ntmps75
      repeat' (first | go_values | go_skip | go_guarded | go_step | go_upon)
      go_end0
      exact ⟨rfl, H.out.set2 _, (Else.refl _ _).setCell _ _⟩
    · rw [if_neg (by simp)]
      go_enter Try.func75, Try.ntmps75
      repeat' (first | go_values | go_skip | go_guarded | go_step | go_upon)
      go_end0
      exact ⟨rfl, H.out, Else.refl _ _⟩
  · rw [if_neg (by simp [h0])]
    have h0' : (bad == 0) = false := by simpa using h0
    go_enter Try.func75, Try.ntmps75
    repeat' (first | go_values | go_skip | go_guarded | go_step | go_upon)
    go_end0
    exact ⟨rfl, H.out, Else.refl _ _⟩
end Go.Proofs.Ytbomloodllddaaa
/- Walks: a pack is read (pack.Get, fretsawref04.Get). Condition: the text is of at most 10^15 bytes. -/
namespace Go.Proofs.Ytbomloodllddaaa
open Go.RowKit
theorem arr_size (t : List UInt8) : (⟨t.toArray⟩ : ByteArray).size = t.length := by simp [ByteArray.size]
theorem arr_extract (t : List UInt8) (i j : Nat) : (⟨t.toArray⟩ : ByteArray).extract i j = ⟨((t.drop i).take (j - i)).toArray⟩ := ba_extract _ i j
theorem RdC.nil {α : Type} {f : α → List Value} {sz : Nat} {w : World} : RowOf f sz w (.slice none 0 0) ([] : List α) := ⟨none, 0, rfl, Nat.le_refl _, Nat.zero_le _, by simp, .inl rfl⟩
theorem prefix_beg (t : List UInt8) : Lib.hasPrefix t [70, 83, 65, 87, 1] = decide (t.take 5 = begB) := by
  rw [Bool.eq_iff_iff]
  unfold Lib.hasPrefix
  rw [List.isPrefixOf_iff_prefix, decide_eq_true_iff, List.prefix_iff_eq_take]
  simp [begB, eq_comm]
theorem has_beg (t : List UInt8) (w : World) : Calls Try.prog 72 #[.string ⟨t.toArray⟩, .string ⟨#[70, 83, 65, 87, 1]⟩] w fun e w' => e = .returned (.bool (Lib.hasPrefix t [70, 83, 65, 87, 1])) ∧ w = w' :=
  (Try.strings_HasPrefix ⟨t.toArray⟩ ⟨#[70, 83, 65, 87, 1]⟩ w).mono fun _ _ ⟨h1, h2⟩ => ⟨h1, h2.symm⟩
theorem info_sec : (Try.prog.info? 70).map (fun i => (i.zero, i.size, i.bytes)) = some (some (.agg #[.int .u64 0, .string ⟨#[]⟩]), 2, 24) := by kernel_rfl
set_option maxRecDepth 100000 in
set_option maxHeartbeats 2000000 in
theorem pack_Get (t : List UInt8) (hs : t.length ≤ 1000000000000000) (w : World) :
    Calls Try.prog 37 #[.string ⟨t.toArray⟩] w fun e w' => ∃ v, e = .returned (.tuple #[v, .int .i64 (getP t).2]) ∧ RowOf secC 2 w' v (getP t).1 ∧ Below w.heap.size w w' := by
  obtain ⟨G, hG⟩ : ∃ G, getP t = G := ⟨_, rfl⟩
  rw [hG]
  have HG := Lib.hid hG; clear hG
  have hsz := arr_size t
  by_cases h9 : t.length < 9
  · have e : G = ([], 20) := by rw [← HG.out]; unfold getP; rw [if_pos h9]
    subst e
    go_enter Try.func37, Try.ntmps37
    repeat' (first | go_values | go_skip | go_guarded | go_step | go_upon)
    go_ret2
    exact ⟨_, rfl, RdC.nil, Below.refl _ _⟩
  obtain ⟨n, hn⟩ : ∃ n, t.length - 4 = n := ⟨_, rfl⟩
  have hnl : t.length = n + 4 := by omega
  have hnI : (t.length : Int) - 4 = n := by omega
  have hn5 : 5 ≤ n := by omega
  have hex1 : (⟨t.toArray⟩ : ByteArray).extract n t.length = ⟨(t.drop n).toArray⟩ := by rw [arr_extract, List.take_of_length_le (by simp)]
  have hex2 : (⟨t.toArray⟩ : ByteArray).extract 0 n = ⟨(t.take n).toArray⟩ := by rw [arr_extract, List.drop_zero, Nat.sub_zero]
  have hpre := prefix_beg t
  have HG2 : Hid (G = if t.take 5 ≠ begB then ([], 40) else if t.drop n ≠ put4 (sumOn 0 (t.take n)) then ([], 41) else if (vget (t.take n) 5).2.2 ≠ 0 then ([], (vget (t.take n) 5).2.2) else if 64 < (vget (t.take n) 5).1 then ([], 2) else finP n (secsF (t.take n) (vget (t.take n) 5).1 none (vget (t.take n) 5).2.1)) := Lib.hid (by
    rw [← HG.out]; unfold getP; rw [if_neg h9, hn]; rfl)
  clear HG
  have Hnl := Lib.hid hnl
  have hln : n ≤ t.length := by omega
  have Htk : Hid ((t.take n).length = n) := Lib.hid (by rw [List.length_take]; omega)
  clear hn hnl
  by_cases h5 : t.take 5 = begB
  · have hpt : Lib.hasPrefix t [70, 83, 65, 87, 1] = true := by rw [hpre]; simpa using h5
    clear hpre
    rw [if_neg (by simpa using h5)] at HG2
    clear h5
    have Hsum := Lib.hid (fun w => sum_Of ⟨(t.take n).toArray⟩ (by rw [arr_size]; rw [Htk.out]; omega) w)
    have Hput := Lib.hid (fun w => wire_PutFour (sumOn 0 (t.take n)) w)
    generalize t.take n = s at hex2 HG2 Htk Hsum Hput
    by_cases hq : t.drop n = put4 (sumOn 0 s)
    · have hqb : (t.drop n == put4 (sumOn 0 s)) = true := by simpa using hq
      rw [if_neg (by simpa using hq)] at HG2
      clear hq
      go_enter Try.func37, Try.ntmps37
      repeat' (first | go_values | go_skip | go_guarded | go_step | go_upon)
      refine Calls.mono (has_beg t _) ?_
      rintro _ _ ⟨rfl, rfl⟩
      dsimp only
      repeat' (first | go_values | go_skip | go_guarded | go_step | go_upon)
      refine wp_region_wb (by kernel_rfl) (by kernel_rfl) w (Below.refl _ _) ?_
      repeat (go_big_quiet_step ((first | (go_at_call 67; with_reducible exact calls_wb (Hsum.out _)) | (go_at_call 66; with_reducible exact calls_wb (Hput.out _)))))
      refine wpQuiet_nil ?_
      rintro _ ⟨nq, rfl⟩
      have hnq := nq.2
      clear hqb Hsum Hput hpt hex1
      obtain ⟨wy, hwy⟩ : ∃ wy : World, wy = nq.1 := ⟨_, rfl⟩
      have Hby := Lib.hid hnq
      rw [← hwy] at Hby ⊢
      clear hwy hnq
      have hr0 : RdrAt (wy.alloc (.cells #[.string ⟨s.toArray⟩, .int .i64 5, .int .i64 0] 143)) wy.heap.size s 5 0 := Go.heap_alloc_new _ _
      have Hr0 := Lib.hid hr0; clear hr0
      have hsl : s.length ≤ 1000000000000000 := by rw [Htk.out]; omega
      obtain ⟨p, hp⟩ : ∃ p, vget s 5 = p := ⟨_, rfl⟩
      obtain ⟨many, a0, b0⟩ := p
      have Hnum := Lib.hid (rdr_number wy.heap.size s hsl 5 0 (i64_small (by omega)) _ Hr0.out)
      rw [show rdNum s 5 0 = (many, a0, b0) from by unfold rdNum; rw [if_neg (by simp), hp]] at Hnum
      have Hst := Lib.hid (GInv.start (G := G) (n := n) hsl hp (by rw [HG2.out, hp]))
      clear HG2 hp
      have hgw := Hby.out.size
      repeat' (first | go_values | go_skip | go_guarded | go_step | go_upon)
      refine Calls.mono (Hnum.out) ?_
      rintro _ w1 ⟨rfl, hr1, he1⟩
      dsimp only
      dsimp only at hr1
      have Hb1 := Lib.hid (Hby.out.trans (((Below.refl _ _).alloc (Nat.le_refl _) _).trans (he1.below (Nat.le_refl _) (by simp)) |>.mono hgw))
      have Hr1 := Lib.hid hr1
      clear Hnum he1 hr1
      repeat' (first | go_values | go_skip | go_guarded | go_step | go_upon)
      refine Calls.mono (rdr_must wy.heap.size s a0 b0 _ 2 w1 Hr1.out) ?_
      rintro _ w2 ⟨rfl, hr2, he2⟩
      dsimp only
      rw [show decide ((many : Int) ≤ 64) = decide (many ≤ 64) from by rw [Bool.eq_iff_iff]; simp; omega] at hr2
      have Hb2 := Lib.hid (Hb1.out.trans (he2.below hgw Hr1.out.lt))
      generalize rdMust (decide (many ≤ 64)) 2 b0 = b2 at hr2 Hst
      have Hr2 := Lib.hid hr2
      clear hr2 he2 Hb1 Hr1
      repeat' (first | go_values | go_skip | go_guarded | go_step | go_upon)
      go_loopw [9, 10, 11, 12] (fun s9 s10 s11 _ w' => ∃ (k : Nat) (acc : List Sec) (at' bad : Int), s10 = .int .i64 (sizeS acc : Nat) ∧ s11 = .int .u64 k ∧ Hid (OwnR secC 2 w.heap.size 70 w' s9 acc) ∧ Hid (RdrAt w' wy.heap.size s at' bad) ∧ Hid (GInv G n s many k acc at' bad) ∧ Hid (Below w.heap.size w w')) (fun _ _ s11 _ _ => many - (intOf s11).toNat)
      case atStart => exact ⟨0, [], a0, b2, rfl, rfl, Lib.hid OwnR.nil, Hr2, Hst, Hb2⟩
      case round =>
        clear Hr2 Hst Hb2
        obtain ⟨k, acc, at', bad, rfl, rfl, Ho, Hr, Hi, Hb⟩ := hrel
        by_cases hgo : k < many ∧ bad = 0
        · obtain ⟨hkm, rfl⟩ := hgo
          have hm64 := (Hi.out.good rfl).1
          have c2 := Hr.out.c2
          obtain ⟨q, hq⟩ : ∃ q, rdNum s at' 0 = q := ⟨_, rfl⟩
          obtain ⟨n1, a1, b1⟩ := q
          have Hnum := Lib.hid (rdr_number wy.heap.size s hsl at' 0 Hi.out.place wr Hr.out)
          rw [hq] at Hnum
          have Hq := Lib.hid hq; clear hq
          obtain ⟨wo, hwo⟩ : ∃ wo : World, wo = wr := ⟨_, rfl⟩
          subst hwo
          repeat' (first | go_values | go_skip | go_guarded | go_step | go_upon)
          refine Calls.mono (Hnum.out) ?_
          rintro _ w1 ⟨rfl, hr1, he1⟩
          dsimp only
          dsimp only at hr1
          have Ho1 := Lib.hid (Ho.out.els he1 Hr.out (by decide))
          have Hb1 := Lib.hid (Hb.out.trans (he1.below hgw Hr.out.lt))
          have Hr1 := Lib.hid hr1
          have hob : ∀ k, u9.ownBlock = some k → k < w1.heap.size := fun k hk => (Ho1.out.below hk).2
          have Hob := Lib.hid hob
          clear Hnum he1 hr1 c2 hob
          have h3 : ∃ q, rdText s a1 (rdMust (okAfter acc n1) 21 b1) = q := ⟨_, rfl⟩
          obtain ⟨q, hq⟩ := h3
          obtain ⟨bd, a3, b3⟩ := q
          have Hq3 := Lib.hid hq; clear hq
          have Hnx := Lib.hid (Hi.out.step hsl hkm Hq.out rfl Hq3.out)
          have hbdl : bd.length ≤ 8388608 := by
            have h1 := Hnx.out.size
            have h2 := Hi.out.size
            have h3 := Hq3.out
            unfold rdText at h3
            split at h3
            · simp only [Prod.mk.injEq] at h3; obtain ⟨rfl, _⟩ := h3; simp
            · have := gett_len s a1; rw [h3] at this; exact this
          have hva : I64 a1 := by
            have h1 := Hq.out
            unfold rdNum at h1
            rw [if_neg (by simp)] at h1
            have := vget_i64 hsl at'
            rw [h1] at this; exact this
          have hal := Hi.out.len
          have hss := Hi.out.size
          have Hal := Lib.hid hal; clear hal
          have Hva := Lib.hid hva; clear hva
          repeat' (first | go_values | go_skip | go_guarded | go_step | go_upon)
          refine gen_worldP (fun w' => Box2 w1 w' (.int .u64 n1) (.string ⟨#[]⟩) 70) (Box2.alloc w1 _ _ _) ?_
          rintro wx ⟨hbx, hx⟩
          have Hbx := Lib.hid hbx
          have Hx := Lib.hid hx
          clear hbx hx
          have Hox := Lib.hid (Ho1.out.keep Hbx.out (Nat.le_refl _))
          have Hrx := Lib.hid (Hr1.out.keep Hbx.out)
          have Hbbx := Lib.hid (Hb1.out.trans (Hbx.out.mono Hb1.out.size))
          have hgx : w1.heap.size ≠ wy.heap.size := by have := Hr1.out.lt; omega
          have q0 : ∀ nq : WB wx, nq.1.cell? ⟨w1.heap.size, 0, none⟩ = some (.int .u64 n1) := fun nq => two_c0 (heap_keep Hx.out nq.2)
          have hcase : (k = 0 ∧ okAfter acc n1 = true) ∨ ∃ i g cap prev, k = i + 1 ∧ u9 = .slice (some ⟨g, 0, none⟩) (i + 1) cap ∧ (∀ nq : WB wx, nq.1.cell? ⟨g, i * 2, none⟩ = some (.int .u64 (prev : Nat))) ∧ okAfter acc n1 = decide (prev < n1) ∧ (i + 1 ≤ cap ∧ cap ≤ maxLen) := by
            rcases Nat.eq_zero_or_pos k with h0 | h0
            · refine .inl ⟨h0, ?_⟩
              have : acc = [] := List.eq_nil_of_length_eq_zero (by rw [Hal.out]; exact h0)
              subst this; rfl
            · obtain ⟨i, rfl⟩ : ∃ i, k = i + 1 := ⟨k - 1, by omega⟩
              obtain ⟨g, cap, hv⟩ := Hox.out.somewhere (by rw [Hal.out]; omega)
              obtain ⟨_, _, hv2, hv3, hv4⟩ := Hox.out.form
              rw [hv] at hv2
              simp only [Value.slice.injEq] at hv2
              obtain ⟨_, _, rfl⟩ := hv2
              rw [Hal.out] at hv hv3
              have hx : acc[i]? = some (acc.getD i (0, [])) := by rw [List.getD_eq_getElem?_getD, List.getElem?_eq_getElem (by rw [Hal.out]; omega)]; rfl
              refine .inr ⟨i, g, cap, (acc.getD i (0, [])).1, rfl, hv, fun nq => ?_, ?_, hv3, hv4⟩
              · have ho := Hox.out.keep nq.2 (Nat.le_refl _)
                rw [hv] at ho
                have := ho.cellAt secC_len i _ 0 hx (by omega)
                simpa [secC] using this
              · unfold okAfter lastK
                rw [List.getLast?_eq_getElem?, Hal.out, Nat.add_sub_cancel, hx]
                rfl
          rcases hcase with ⟨rfl, hok⟩ | ⟨i, g, cap, prev, rfl, rfl, q1, hok, hcap, hmx⟩
          · repeat' (first | go_values | go_skip | go_guarded | go_step | go_upon)
            refine wp_region_tail 14 (by kernel_rfl) (by kernel_rfl) wx (Below.refl _ _) ?_
            simp only [List.take_succ_cons, List.take_zero, List.drop_succ_cons, List.drop_zero]
            repeat (go_big_quiet_step ((fail)))
            refine wpQuiet_nil ?_
            rintro _ ⟨nq, rfl⟩
            have hnq := nq.2
            clear q0
            have Hrn := Lib.hid (Hrx.out.keep hnq)
            have Hxn := Lib.hid (heap_keep Hx.out hnq)
            have Hon := Lib.hid (Hox.out.keep hnq (Nat.le_refl _))
            have Hbn := Lib.hid (Hbbx.out.trans (hnq.mono Hbbx.out.size))
            have hsn : w1.heap.size < nq.1.heap.size := heap_lt Hxn.out
            clear hnq
            repeat' (first | go_values | go_skip | go_guarded | go_step | go_upon)
            refine Calls.mono (rdr_must wy.heap.size s a1 b1 _ 21 nq.1 Hrn.out) ?_
            rintro _ w2 ⟨rfl, hr2, he2⟩
            dsimp only
            rw [← hok] at hr2
            have Hr2 := Lib.hid hr2
            have Hx2 := Lib.hid (he2.row Hxn.out hgx)
            have Ho2 := Lib.hid (Hon.out.els he2 Hrn.out (by decide))
            have Hb2 := Lib.hid (Hbn.out.trans (he2.below hgw Hrn.out.lt))
            have hs2 := he2.size
            clear hr2 he2 Hrn Hxn Hon Hbn
            have Htx := Lib.hid (rdr_text wy.heap.size s hsl a1 _ Hva.out w2 Hr2.out)
            rw [Hq3.out] at Htx
            repeat' (first | go_values | go_skip | go_guarded | go_step | go_upon)
            refine Calls.mono (Htx.out) ?_
            rintro _ w3 ⟨rfl, hr3, he3⟩
            dsimp only
            dsimp only at hr3
            have Hr3 := Lib.hid hr3
            have Hx3 := Lib.hid (he3.row Hx2.out hgx)
            have Ho3 := Lib.hid (Ho2.out.els he3 Hr2.out (by decide))
            have Hb3 := Lib.hid (Hb2.out.trans (he3.below hgw Hr2.out.lt))
            have hs3 := he3.size
            clear hr3 he3 Hr2 Hx2 Ho2 Hb2 Htx
            have n0 := two_c0 Hx3.out
            have n1c := two_c1 Hx3.out
            have f1 : w3.frozen? ⟨w1.heap.size, 1, none⟩ = false := frozen_of_row _ _ _ _ _ Hx3.out
            have hbs := ba_size bd
            have hob2 : ∀ k', (u9 : Value).ownBlock = some k' → k' ≠ w1.heap.size := fun k' hk' => Nat.ne_of_lt (Hob.out k' hk')
            have Ho4 := Lib.hid (Ho3.out.setOther (o := 1) (u := .string ⟨bd.toArray⟩) hob2)
            have hown := Ho4.out
            have hwB : w.heap.size ≤ (w3.setCell ⟨w1.heap.size, 1, none⟩ (.string ⟨bd.toArray⟩)).heap.size := by have := Hb3.out.size; simpa [World.setCell] using this
            have hll : acc.length ≤ 64 := by rw [Hal.out]; omega
            repeat' (first | (at_builtin; go_loud (refine app_one 24 w3.heap.size (by simp [World.setCell]) (n1, bd) secC_len (by intro u hu; simp [secC] at hu; rcases hu with rfl | rfl <;> rfl) Try.underlying39 info_sec rfl rfl _ _ rfl rfl rfl rfl hown hwB (by omega) (by unfold maxLen; omega) ?_); intro v4 w4 hown4 hb4 hk4 _) | go_values | go_skip | go_guarded | go_step | go_upon)
            have Hrn4 : Hid (RdrAt w4 wy.heap.size s a3 b3) := Lib.hid (by
              refine hk4 _ _ _ _ ?_ (by decide)
              rw [show (w3.setCell ⟨w1.heap.size, 1, none⟩ (.string ⟨bd.toArray⟩)).heap[wy.heap.size]? = w3.heap[wy.heap.size]? from Below.heap_setCell _ _ _ _ (by dsimp only; omega)]
              exact Hr3.out)
            have Hbe4 := Lib.hid ((Hb3.out.setCell (p := ⟨w1.heap.size, 1, none⟩) (by have := Hb1.out.size; exact this) (.string ⟨bd.toArray⟩)).trans hb4)
            have Hown4 := Lib.hid hown4
            go_roundw
            case rel => exact ⟨0 + 1, acc ++ [(n1, bd)], a3, b3, by rw [sizeS_append]; simp [sizeS], by simp, Hown4, Hrn4, Hnx, Hbe4⟩
            case measure => simp [intOf]; omega
          · have hz1 : ((i : Int) + 1 == 0) = false := by simp; omega
            have hw1 : IntKind.u64.wrap (i : Int) = i := wu64 (by omega) (u64_small (by omega))
            repeat' (first | go_values | go_skip | go_guarded | go_step | go_upon)
            refine wp_region_tail 14 (by kernel_rfl) (by kernel_rfl) wx (Below.refl _ _) ?_
            simp only [List.take_succ_cons, List.take_zero, List.drop_succ_cons, List.drop_zero]
            repeat (go_big_quiet_step ((fail)))
            refine wpQuiet_nil ?_
            rintro _ ⟨nq, rfl⟩
            have hnq := nq.2
            clear q0 q1
            have Hrn := Lib.hid (Hrx.out.keep hnq)
            have Hxn := Lib.hid (heap_keep Hx.out hnq)
            have Hon := Lib.hid (Hox.out.keep hnq (Nat.le_refl _))
            have Hbn := Lib.hid (Hbbx.out.trans (hnq.mono Hbbx.out.size))
            have hsn : w1.heap.size < nq.1.heap.size := heap_lt Hxn.out
            clear hnq
            repeat' (first | go_values | go_skip | go_guarded | go_step | go_upon)
            refine Calls.mono (rdr_must wy.heap.size s a1 b1 _ 21 nq.1 Hrn.out) ?_
            rintro _ w2 ⟨rfl, hr2, he2⟩
            dsimp only
            try rw [show decide ((prev : Int) < n1) = decide (prev < n1) from by rw [Bool.eq_iff_iff]; simp] at hr2
            rw [← hok] at hr2
            have Hr2 := Lib.hid hr2
            have Hx2 := Lib.hid (he2.row Hxn.out hgx)
            have Ho2 := Lib.hid (Hon.out.els he2 Hrn.out (by decide))
            have Hb2 := Lib.hid (Hbn.out.trans (he2.below hgw Hrn.out.lt))
            have hs2 := he2.size
            clear hr2 he2 Hrn Hxn Hon Hbn
            have Htx := Lib.hid (rdr_text wy.heap.size s hsl a1 _ Hva.out w2 Hr2.out)
            rw [Hq3.out] at Htx
            repeat' (first | go_values | go_skip | go_guarded | go_step | go_upon)
            refine Calls.mono (Htx.out) ?_
            rintro _ w3 ⟨rfl, hr3, he3⟩
            dsimp only
            dsimp only at hr3
            have Hr3 := Lib.hid hr3
            have Hx3 := Lib.hid (he3.row Hx2.out hgx)
            have Ho3 := Lib.hid (Ho2.out.els he3 Hr2.out (by decide))
            have Hb3 := Lib.hid (Hb2.out.trans (he3.below hgw Hr2.out.lt))
            have hs3 := he3.size
            clear hr3 he3 Hr2 Hx2 Ho2 Hb2 Htx
            have n0 := two_c0 Hx3.out
            have n1c := two_c1 Hx3.out
            have f1 : w3.frozen? ⟨w1.heap.size, 1, none⟩ = false := frozen_of_row _ _ _ _ _ Hx3.out
            have hbs := ba_size bd
            have hob2 : ∀ k', (.slice (some ⟨g, 0, none⟩) (i + 1) cap : Value).ownBlock = some k' → k' ≠ w1.heap.size := fun k' hk' => Nat.ne_of_lt (Hob.out k' hk')
            have Ho4 := Lib.hid (Ho3.out.setOther (o := 1) (u := .string ⟨bd.toArray⟩) hob2)
            have hown := Ho4.out
            have hwB : w.heap.size ≤ (w3.setCell ⟨w1.heap.size, 1, none⟩ (.string ⟨bd.toArray⟩)).heap.size := by have := Hb3.out.size; simpa [World.setCell] using this
            have hll : acc.length ≤ 64 := by rw [Hal.out]; omega
            repeat' (first | (at_builtin; go_loud (refine app_one 24 w3.heap.size (by simp [World.setCell]) (n1, bd) secC_len (by intro u hu; simp [secC] at hu; rcases hu with rfl | rfl <;> rfl) Try.underlying39 info_sec rfl rfl _ _ rfl rfl rfl rfl hown hwB (by omega) (by unfold maxLen; omega) ?_); intro v4 w4 hown4 hb4 hk4 _) | go_values | go_skip | go_guarded | go_step | go_upon)
            have Hrn4 : Hid (RdrAt w4 wy.heap.size s a3 b3) := Lib.hid (by
              refine hk4 _ _ _ _ ?_ (by decide)
              rw [show (w3.setCell ⟨w1.heap.size, 1, none⟩ (.string ⟨bd.toArray⟩)).heap[wy.heap.size]? = w3.heap[wy.heap.size]? from Below.heap_setCell _ _ _ _ (by dsimp only; omega)]
              exact Hr3.out)
            have Hbe4 := Lib.hid ((Hb3.out.setCell (p := ⟨w1.heap.size, 1, none⟩) (by have := Hb1.out.size; exact this) (.string ⟨bd.toArray⟩)).trans hb4)
            have Hown4 := Lib.hid hown4
            go_roundw
            case rel => exact ⟨(i + 1) + 1, acc ++ [(n1, bd)], a3, b3, by rw [sizeS_append]; simp [sizeS], by simp, Hown4, Hrn4, Hnx, Hbe4⟩
            case measure => simp [intOf]; omega
        · have hend : bad = 0 → many ≤ k := fun h => by
            have := not_and.1 hgo
            rcases Nat.lt_or_ge k many with h' | h'
            · exact absurd h (this h')
            · exact h'
          clear hgo
          have hdn := Hi.out.done hend
          have hss := Hi.out.size
          obtain ⟨ok1, hok1⟩ : ∃ ok, (at' == (n : Int)) = ok := ⟨_, rfl⟩
          obtain ⟨ok2, hok2⟩ : ∃ ok, decide ((sizeS acc : Int) ≤ 8388608) = ok := ⟨_, rfl⟩
          rw [show decide (at' = (n : Int)) = ok1 from by rw [← hok1]; rfl, show decide (sizeS acc ≤ 8388608) = ok2 from by rw [← hok2, Bool.eq_iff_iff]; simp; omega] at hdn
          obtain ⟨b5, hb5⟩ : ∃ b5, rdMust ok2 2 (rdMust ok1 21 bad) = b5 := ⟨_, rfl⟩
          rw [hb5] at hdn
          have Hdn := Lib.hid hdn; clear hdn
          have Hb5 := Lib.hid hb5; clear hb5
          have Hend := Lib.hid hend; clear hend
          clear hss
          have c1 := Hr.out.c1
          have c2 := Hr.out.c2
          have hpl := Hi.out.place
          clear Hi
          generalize sizeS acc = sz at hok2
          obtain ⟨wo, hwo⟩ : ∃ wo : World, wo = wr := ⟨_, rfl⟩
          subst hwo
          by_cases hkm : k < many
          · have hb0 : (bad == 0) = false := by simp; intro h; have := Hend.out h; omega
            clear Hend
            repeat' (first | go_values | go_skip | go_guarded | go_step | go_upon)
            refine Calls.mono (rdr_must wy.heap.size s at' bad ok1 21 wo Hr.out) ?_
            rintro _ w3 ⟨rfl, hr3, he3⟩
            dsimp only
            have Hr3 := Lib.hid hr3
            have Ho3 := Lib.hid (Ho.out.els he3 Hr.out (by decide))
            have Hb3 := Lib.hid (Hb.out.trans (he3.below hgw Hr.out.lt))
            clear hr3 he3 Hr Ho Hb hok1
            repeat' (first | go_values | go_skip | go_guarded | go_step | go_upon)
            refine Calls.mono (rdr_must wy.heap.size s at' _ ok2 2 w3 Hr3.out) ?_
            rintro _ w4 ⟨rfl, hr4, he4⟩
            dsimp only
            rw [Hb5.out] at hr4
            have Hr4 := Lib.hid hr4
            have Ho4 := Lib.hid (Ho3.out.els he4 Hr3.out (by decide))
            have Hb4 := Lib.hid (Hb3.out.trans (he4.below hgw Hr3.out.lt))
            clear hr4 he4 Hr3 Ho3 Hb3 hok2 c1 c2
            have d2 := Hr4.out.c2
            have q2 : ∀ nq : WB w4, nq.1.cell? ⟨wy.heap.size, 2, none⟩ = some (.int .i64 b5) := fun nq => (Hr4.out.keep nq.2).c2
            by_cases h5 : b5 = 0
            · subst h5
              have e := Hdn.out
              rw [if_neg (by simp)] at e
              subst e
              repeat' (first | go_values | go_skip | go_guarded | go_step | go_upon)
              go_ret2
              exact ⟨_, rfl, Ho4.out.row, Hb4.out⟩
            · have h5b : (b5 != 0) = true := by simpa using h5
              have e := Hdn.out
              rw [if_pos h5] at e
              subst e
              repeat' (first | go_values | go_skip | go_guarded | go_step | go_upon)
              refine wp_region_wb (by kernel_rfl) (by kernel_rfl) w4 (Below.refl _ _) ?_
              repeat (go_big_quiet_step ((fail)))
              refine wpQuiet_nil ?_
              rintro _ ⟨nq, rfl⟩
              have hnq := nq.2
              clear q2
              repeat' (first | go_values | go_skip | go_guarded | go_step | go_upon)
              go_ret2
              exact ⟨_, rfl, RdC.nil, Hb4.out.trans (hnq.mono Hb4.out.size)⟩
          · repeat' (first | go_values | go_skip | go_guarded | go_step | go_upon)
            refine Calls.mono (rdr_must wy.heap.size s at' bad ok1 21 wo Hr.out) ?_
            rintro _ w3 ⟨rfl, hr3, he3⟩
            dsimp only
            have Hr3 := Lib.hid hr3
            have Ho3 := Lib.hid (Ho.out.els he3 Hr.out (by decide))
            have Hb3 := Lib.hid (Hb.out.trans (he3.below hgw Hr.out.lt))
            clear hr3 he3 Hr Ho Hb hok1
            repeat' (first | go_values | go_skip | go_guarded | go_step | go_upon)
            refine Calls.mono (rdr_must wy.heap.size s at' _ ok2 2 w3 Hr3.out) ?_
            rintro _ w4 ⟨rfl, hr4, he4⟩
            dsimp only
            rw [Hb5.out] at hr4
            have Hr4 := Lib.hid hr4
            have Ho4 := Lib.hid (Ho3.out.els he4 Hr3.out (by decide))
            have Hb4 := Lib.hid (Hb3.out.trans (he4.below hgw Hr3.out.lt))
            clear hr4 he4 Hr3 Ho3 Hb3 hok2 c1 c2
            have d2 := Hr4.out.c2
            have q2 : ∀ nq : WB w4, nq.1.cell? ⟨wy.heap.size, 2, none⟩ = some (.int .i64 b5) := fun nq => (Hr4.out.keep nq.2).c2
            by_cases h5 : b5 = 0
            · subst h5
              have e := Hdn.out
              rw [if_neg (by simp)] at e
              subst e
              repeat' (first | go_values | go_skip | go_guarded | go_step | go_upon)
              go_ret2
              exact ⟨_, rfl, Ho4.out.row, Hb4.out⟩
            · have h5b : (b5 != 0) = true := by simpa using h5
              have e := Hdn.out
              rw [if_pos h5] at e
              subst e
              repeat' (first | go_values | go_skip | go_guarded | go_step | go_upon)
              refine wp_region_wb (by kernel_rfl) (by kernel_rfl) w4 (Below.refl _ _) ?_
              repeat (go_big_quiet_step ((fail)))
              refine wpQuiet_nil ?_
              rintro _ ⟨nq, rfl⟩
              have hnq := nq.2
              clear q2
              repeat' (first | go_values | go_skip | go_guarded | go_step | go_upon)
              go_ret2
              exact ⟨_, rfl, RdC.nil, Hb4.out.trans (hnq.mono Hb4.out.size)⟩
    · have hqb : (t.drop n == put4 (sumOn 0 s)) = false := by simpa using hq
      have e : G = ([], 41) := by rw [HG2.out, if_pos (by simpa using hq)]
      clear hq
      subst e
      go_enter Try.func37, Try.ntmps37
      repeat' (first | go_values | go_skip | go_guarded | go_step | go_upon)
      refine Calls.mono (has_beg t _) ?_
      rintro _ _ ⟨rfl, rfl⟩
      dsimp only
      repeat' (first | go_values | go_skip | go_guarded | go_step | go_upon)
      refine wp_region_wb (by kernel_rfl) (by kernel_rfl) w (Below.refl _ _) ?_
      repeat (go_big_quiet_step ((first | (go_at_call 67; with_reducible exact calls_wb (Hsum.out _)) | (go_at_call 66; with_reducible exact calls_wb (Hput.out _)))))
      refine wpQuiet_nil ?_
      rintro _ ⟨nq, rfl⟩
      have hnq := nq.2
      repeat' (first | go_values | go_skip | go_guarded | go_step | go_upon)
      go_ret2
      exact ⟨_, rfl, RdC.nil, hnq⟩
  · have hpt : Lib.hasPrefix t [70, 83, 65, 87, 1] = false := by rw [hpre]; simpa using h5
    have e : G = ([], 40) := by rw [HG2.out, if_pos (by simpa using h5)]
    clear hpre
    subst e
    go_enter Try.func37, Try.ntmps37
    repeat' (first | go_values | go_skip | go_guarded | go_step | go_upon)
    refine Calls.mono (has_beg t _) ?_
    rintro _ _ ⟨rfl, rfl⟩
    dsimp only
    repeat' (first | go_values | go_skip | go_guarded | go_step | go_upon)
    go_ret2
    exact ⟨_, rfl, RdC.nil, Below.refl _ _⟩
end Go.Proofs.Ytbomloodllddaaa
/- Walk: a pack is read, by the reference (fretsawref04.Get). Condition: the text is of at most 10^15 bytes. -/
namespace Go.Proofs.Ytbomloodllddaaa
open Go.RowKit
end Go.Proofs.Ytbomloodllddaaa
/- Walks: the statements PackGets and PackInner. No conditions beyond the statements' own. -/
namespace Go.Proofs.Ytbomloodllddaaa
open Go.RowKit
theorem ba_list (s : ByteArray) : ∃ l : List UInt8, s = ⟨l.toArray⟩ := ⟨s.data.toList, by apply ByteArray.ext; apply Array.ext'; simp⟩
end Go.Proofs.Ytbomloodllddaaa
/- Walk: the statement PackPuts. No conditions beyond the statement's own. -/
namespace Go.Proofs.Ytbomloodllddaaa
open Go.RowKit
end Go.Proofs.Ytbomloodllddaaa
/- What is put is got again; what is got, put again, is the bytes: packs, in plain Lean. -/
namespace Go.Proofs.Ytbomloodllddaaa
end Go.Proofs.Ytbomloodllddaaa
