/- Walks: sections are written as a pack (pack.Put, fretsawref04.Put, their sizes). Condition: each body is of at most 2^47 bytes. -/
import Derived.Test.YtbomloodllddaaaPk22
import Derived.Test.YtbomloodllddaaaPk08
import Derived.Test.YtbomloodllddaaaPk01
import Derived.Test.YtbomloodllddaaaPk06
import Derived.Test.YtbomloodllddaaaPk03
namespace Go.Proofs.Ytbomloodllddaaa
open Go.RowKit
/-- a section's cells -/
def secC (x : Sec) : List Value := [.int .u64 (x.1 : Nat), .string ⟨x.2.toArray⟩]
theorem secC_len (x : Sec) : (secC x).length = 2 := rfl
/-- what may be of a section -/
def SecOk (x : Sec) : Prop := U64 x.1 ∧ x.2.length ≤ 140737488351232
def SecsOk (l : List Sec) : Prop := ∀ x ∈ l, SecOk x
/-- the sum of the bodies' lengths, as the program counts -/
def wsum (l : List Sec) : Nat → Int
  | 0 => 0
  | k + 1 => wrap64 (wsum l k + ((l.getD k (0, [])).2.length : Nat))
theorem take_get {α : Type} (l : List α) (d : α) (k : Nat) (h : k < l.length) : l.take (k + 1) = l.take k ++ [l.getD k d] := by
  rw [List.take_succ_eq_append_getElem h]; simp [List.getD, h]
theorem sizeS_take (l : List Sec) (k : Nat) (h : k < l.length) : sizeS (l.take (k + 1)) = sizeS (l.take k) + (l.getD k (0, [])).2.length := by
  rw [take_get l (0, []) k h, sizeS_append]; simp [sizeS]
theorem sizeS_bound {l : List Sec} (hl : SecsOk l) : ∀ k, k ≤ l.length → sizeS (l.take k) ≤ k * 140737488351232
  | 0, _ => by simp [sizeS]
  | k + 1, h => by
    rw [sizeS_take l k (by omega)]
    have h1 := sizeS_bound hl k (by omega)
    have h2 : (l.getD k (0, [])).2.length ≤ 140737488351232 := by
      have : l.getD k (0, []) ∈ l := by rw [List.getD_eq_getElem?_getD, List.getElem?_eq_getElem (by omega)]; exact List.getElem_mem _
      exact (hl _ this).2
    omega
theorem wsum_small {l : List Sec} (hl : SecsOk l) (h64 : l.length ≤ 64) : ∀ k, k ≤ l.length → wsum l k = (sizeS (l.take k) : Nat)
  | 0, _ => by simp [wsum, sizeS]
  | k + 1, h => by
    rw [wsum, wsum_small hl h64 k (by omega), sizeS_take l k (by omega)]
    have h1 := sizeS_bound hl (k + 1) h
    rw [sizeS_take l k (by omega)] at h1
    have h2 : (k + 1) * 140737488351232 ≤ 64 * 140737488351232 := Nat.mul_le_mul_right _ (by omega)
    rw [IntWalk.wrap64_in _ (by omega)]
    omega
theorem wsum_i64 (l : List Sec) : ∀ k, I64 (wsum l k)
  | 0 => by unfold wsum I64; omega
  | k + 1 => by rw [wsum]; unfold I64 wrap64; omega
theorem Row2.cells {w : World} {b off : Nat} {l : List Sec} (h : ∀ (i : Nat) (x : Sec) (j : Nat), l[i]? = some x → j < 2 → w.cell? ⟨b, off + (i * 2 + j), none⟩ = (secC x)[j]?) (k : Nat) (hk : k < l.length) :
    w.cell? ⟨b, off + k * 2, none⟩ = some (.int .u64 ((l.getD k (0, [])).1 : Nat)) ∧ w.cell? ⟨b, off + k * 2 + 1, none⟩ = some (.string ⟨(l.getD k (0, [])).2.toArray⟩) := by
  have hx : l[k]? = some (l.getD k (0, [])) := by rw [List.getD_eq_getElem?_getD, List.getElem?_eq_getElem hk]; rfl
  exact ⟨by simpa [secC] using h k _ 0 hx (by omega), by simpa [secC, ← Nat.add_assoc] using h k _ 1 hx (by omega)⟩
theorem SecsOk.at {l : List Sec} (h : SecsOk l) {k : Nat} (hk : k < l.length) : U64 (l.getD k (0, [])).1 ∧ (l.getD k (0, [])).2.length ≤ 140737488351232 := by
  apply h
  rw [List.getD_eq_getElem?_getD, List.getElem?_eq_getElem hk]; exact List.getElem_mem _
theorem ba_size (l : List UInt8) : (⟨l.toArray⟩ : ByteArray).size = l.length := by simp [ByteArray.size]
/-- what is written behind k sections -/
def packTo (l : List Sec) (k : Nat) : List UInt8 := begB ++ vput l.length ++ (l.take k).flatMap psec
theorem packTo_succ (l : List Sec) (k : Nat) (h : k < l.length) : packTo l (k + 1) = packTo l k ++ vput (l.getD k (0, [])).1 ++ (vput (l.getD k (0, [])).2.length ++ (l.getD k (0, [])).2) := by
  unfold packTo; rw [take_get l (0, []) k h, List.flatMap_append]; simp [psec]
theorem packTo_all (l : List Sec) : packTo l l.length = packB l := by unfold packTo packB; rw [List.take_length]
theorem packTo_len {l : List Sec} (hl : SecsOk l) (h64 : l.length ≤ 64) : ∀ k, k ≤ l.length → (packTo l k).length ≤ 15 + 20 * k + sizeS (l.take k)
  | 0, _ => by
    have := vput_len10 (u64_small (n := l.length) (by omega))
    simp [packTo, begB, sizeS]; omega
  | k + 1, h => by
    have h1 := packTo_len hl h64 k (by omega)
    obtain ⟨o1, o2⟩ := hl.at (k := k) (by omega)
    have h2 := vput_len10 o1
    have h3 := vput_len10 (u64_small (n := (l.getD k (0, [])).2.length) (by omega))
    rw [packTo_succ l k (by omega), sizeS_take l k (by omega)]
    simp only [List.length_append]
    omega
/-- a variable of two cells that was just laid -/
def Box2 (w w' : World) (u v : Value) (t : TypeId) : Prop := Below w.heap.size w w' ∧ w'.heap[w.heap.size]? = some (.cells #[u, v] t (0, 0))
theorem Box2.alloc (w : World) (u v : Value) (t : TypeId) : Box2 w (w.alloc (.cells #[u, v] t)) u v t := ⟨(Below.refl _ _).alloc (Nat.le_refl _) _, Go.heap_alloc_new w _⟩
theorem two_c0 {w : World} {g : Nat} {u v : Value} {t : TypeId} (h : w.heap[g]? = some (.cells #[u, v] t (0, 0))) : w.cell? ⟨g, 0, none⟩ = some u := by rw [cell_of_row w g 0 _ _ _ h]; rfl
theorem two_c1 {w : World} {g : Nat} {u v : Value} {t : TypeId} (h : w.heap[g]? = some (.cells #[u, v] t (0, 0))) : w.cell? ⟨g, 1, none⟩ = some v := by rw [cell_of_row w g 1 _ _ _ h]; rfl
theorem heap_lt {w : World} {g : Nat} {o : Obj} (h : w.heap[g]? = some o) : g < w.heap.size := (Array.getElem?_eq_some_iff.1 h).1
theorem heap_keep {w w' : World} {g : Nat} {o : Obj} (h : w.heap[g]? = some o) (hb : Below w.heap.size w w') : w'.heap[g]? = some o := by rw [hb.block g (heap_lt h)]; exact h
theorem gen_worldP {P : Program} {c : Code} {Q : Exit → Act → World → Prop} {a : Act} {w : World} (F : World → Prop) (hF : F w) (h : ∀ w', F w' → c.wp P Q a w') : c.wp P Q a w := h w hF
theorem arr_append (a b : List UInt8) : (⟨a.toArray⟩ : ByteArray) ++ ⟨b.toArray⟩ = ⟨(a ++ b).toArray⟩ := ba_append a ⟨b.toArray⟩
theorem ret_cat {a b : List UInt8} {k2 : IntKind} {a2 : Int} : Ending.returned (.tuple #[.string ((⟨a.toArray⟩ : ByteArray) ++ ⟨b.toArray⟩), .int k2 a2]) = Ending.returned (.tuple #[.string ⟨(a ++ b).toArray⟩, .int k2 a2]) := by rw [arr_append]
theorem beg_append (s : ByteArray) : (⟨#[70, 83, 65, 87, 1]⟩ : ByteArray) ++ s = ⟨(begB ++ s.data.toList).toArray⟩ := ba_append begB s
theorem ret_si {a b : List UInt8} {k2 : IntKind} {a2 b2 : Int} (h1 : a = b) (h2 : a2 = b2) : Ending.returned (.tuple #[.string ⟨a.toArray⟩, .int k2 a2]) = Ending.returned (.tuple #[.string ⟨b.toArray⟩, .int k2 b2]) := by rw [h1, h2]
set_option maxRecDepth 100000 in
set_option maxHeartbeats 2000000 in
theorem pack_Put (v : Value) (l : List Sec) (w : World) (h : RowOf secC 2 w v l) (hl : SecsOk l) :
    Calls Try.prog 28 #[v] w fun e w' => e = .returned (.tuple #[.string ⟨(putP l).1.toArray⟩, .int .i64 (putP l).2]) ∧ Below w.heap.size w w' := by
  obtain ⟨a, cap, rfl, hcap, hmx, hcell⟩ := h.open secC_len
  obtain ⟨r, hr⟩ : ∃ r, putP l = r := ⟨_, rfl⟩
  rw [hr]
  have Hr := Lib.hid hr; clear hr
  obtain ⟨n, hn⟩ : ∃ n, l.length = n := ⟨_, rfl⟩
  rw [hn] at hcap hcell ⊢
  have Hn := Lib.hid hn; clear hn h
  unfold maxLen at hmx
  go_enter Try.func28, Try.ntmps28
  repeat' (first | go_values | go_skip | go_guarded | go_step | go_upon)
  go_loopw [4, 6, 13] (fun s3 _ s8 w' => ∃ k : Nat, s8 = .int .i64 k ∧ k ≤ n ∧ s3 = .int .i64 (wsum l k) ∧ Hid (Below w.heap.size w w')) (fun _ _ s8 _ => n - (intOf s8).toNat)
  case atStart => exact ⟨0, rfl, Nat.zero_le _, rfl, Lib.hid (Below.refl _ _)⟩
  case round =>
    obtain ⟨k, rfl, hk, rfl, Hb⟩ := hrel
    by_cases hlt : k < n
    · rcases hcell with h0 | ⟨b, off, rfl, hbB, hcell⟩
      · omega
      have hcs := Row2.cells hcell k (by rw [Hn.out]; exact hlt)
      have hok := hl.at (k := k) (by rw [Hn.out]; exact hlt)
      clear hcell
      have hws := wsum_i64 l k
      have hs : wsum l (k + 1) = wrap64 (wsum l k + ((l.getD k (0, [])).2.length : Nat)) := rfl
      obtain ⟨c0, c1⟩ := hcs
      rw [← Hb.out.cell (show b < w.heap.size from hbB)] at c0 c1
      generalize l.getD k (0, []) = x at c0 c1 hs hok
      obtain ⟨kind, body⟩ := x
      dsimp only at c0 c1 hs hok
      have hbs := ba_size body
      generalize wsum l k = y at hs hws
      have Hs := Lib.hid hs; clear hs
      have Hws := Lib.hid hws; clear hws
      repeat' (first | go_values | go_skip | go_guarded | go_step | go_upon)
      go_roundw
      case rel => exact ⟨k + 1, by go_num, hlt, by rw [Hs.out], Lib.hid (Hb.out.alloc (by have := Hb.out.size; omega) _)⟩
      case measure => simp [intOf]; omega
    · obtain rfl : k = n := by omega
      by_cases h64 : 64 < k
      · have e : r = ([], 2) := by rw [← Hr.out]; unfold putP; rw [if_pos (.inl (by rw [Hn.out]; exact h64))]
        subst e
        repeat' (first | go_values | go_skip | go_guarded | go_step | go_upon)
        go_ret2
        exact ⟨rfl, Hb.out⟩
      have hws := wsum_small hl (by rw [Hn.out]; omega) k (by rw [Hn.out]; exact Nat.le_refl _)
      have htk : l.take k = l := by rw [← Hn.out, List.take_length]
      rw [htk] at hws
      rw [hws]
      clear hws
      by_cases hsz : 8388608 < sizeS l
      · have e : r = ([], 2) := by rw [← Hr.out]; unfold putP; rw [if_pos (.inr hsz)]
        subst e
        generalize sizeS l = sz at hsz
        repeat' (first | go_values | go_skip | go_guarded | go_step | go_upon)
        go_ret2
        exact ⟨rfl, Hb.out⟩
      have Hr2 : Hid (r = if risesTo l k = true then (packB l ++ put4 (sumOn 0 (packB l)), 0) else ([], 1)) := Lib.hid (by rw [← Hr.out]; unfold putP; rw [if_neg (by rw [Hn.out]; omega), Hn.out])
      clear Hr
      have Hlen : Hid (∀ j, j ≤ k → (packTo l j).length ≤ 10000000) := Lib.hid fun j hj => by
        have h1 := packTo_len hl (by rw [Hn.out]; omega) j (by rw [Hn.out]; exact hj)
        have h2 := sizeS_take_le l j
        omega
      have hku := u64_small (n := k) (by omega)
      have hkw : IntKind.u64.wrap (k : Int) = k := wu64 (by omega) hku
      have hb0 := beg_append
      have hvl := vput_len10 hku
      generalize sizeS l = sz at hsz
      obtain ⟨wo, hwo⟩ : ∃ wo : World, wo = wr := ⟨_, rfl⟩
      subst hwo
      have Hbld := Lib.hid (Bld.fresh wo)
      repeat' (first | go_values | go_skip | go_guarded | go_step | go_upon)
      refine Calls.mono (wire_Put k _ hku) ?_
      rintro _ w1 ⟨rfl, hb1⟩
      dsimp only
      have hbld1 := Hbld.out.keep hb1 (Nat.le_refl _)
      have hs1 : wo.heap.size + 1 ≤ w1.heap.size := by have := hb1.size; simpa using this
      have Hb1 : Hid (Below wo.heap.size wo w1) := Lib.hid (((Below.refl _ _).alloc (Nat.le_refl _) _).trans (hb1.mono (by simp)))
      clear Hbld hb1
      repeat' (first | go_values | go_skip | go_guarded | go_step | go_upon)
      refine Calls.mono (bld_WriteString wo.heap.size wo.heap.size [] _ _ hbld1 (by simp [ByteArray.size, begB]; omega) (by omega)) ?_
      rintro _ w2 ⟨rfl, hbld2, hb2, _⟩
      dsimp only
      have Hb2 : Hid (Below w.heap.size w w2) := Lib.hid (Hb.out.trans ((Hb1.out.trans hb2).mono Hb.out.size))
      have Hbld2 : Hid (Bld w2 wo.heap.size wo.heap.size (packTo l 0)) := Lib.hid (by simpa [packTo, Hn.out] using hbld2)
      have hwo := Hb.out.size
      have hs2 : wo.heap.size + 1 ≤ w2.heap.size := Nat.le_trans hs1 hb2.size
      clear hbld1 Hb1 hbld2 hb2 hb0
      repeat' (first | go_values | go_skip | go_guarded | go_step | go_upon)
      go_loopw [8, 9, 38] (fun _ _ s38 w' => ∃ j : Nat, s38 = .int .i64 j ∧ j ≤ k ∧ Hid (Below w.heap.size w w') ∧ Hid (Bld w' wo.heap.size wo.heap.size (packTo l j)) ∧ Hid (risesTo l j = true)) (fun _ _ s38 _ => k - (intOf s38).toNat)
      case atStart => exact ⟨0, rfl, Nat.zero_le _, Hb2, Hbld2, Lib.hid rfl⟩
      case round =>
        clear Hb2 Hbld2 hs1 hs2
        obtain ⟨j, rfl, hj, Hb2, Hbld2, Hri⟩ := hrel
        by_cases hjk : j < k
        · rcases hcell with h0 | ⟨b, off, rfl, hbB, hcell⟩
          · omega
          obtain ⟨c0, c1⟩ := Row2.cells hcell j (by rw [Hn.out]; exact hjk)
          obtain ⟨ho1, ho2⟩ := hl.at (k := j) (by rw [Hn.out]; exact hjk)
          have Hps := Lib.hid (packTo_succ l j (by rw [Hn.out]; exact hjk))
          have Hrs := Lib.hid (risesTo_succ l j)
          have Hln := Lib.hid (Hlen.out (j + 1) hjk)
          have Hlj := Lib.hid (Hlen.out j hj)
          have Hcp := Lib.hid (fun i (hi : i < k) => (Row2.cells hcell i (by rw [Hn.out]; exact hi)).1)
          clear hcell
          rw [← Hb2.out.cell (show b < w.heap.size from hbB)] at c0 c1
          generalize l.getD j (0, []) = x at c0 c1 Hps Hrs ho1 ho2
          obtain ⟨kind, body⟩ := x
          dsimp only at c0 c1 ho1 ho2 Hps Hrs
          have hbs := ba_size body
          obtain ⟨wq, hwq⟩ : ∃ wq : World, wq = wr := ⟨_, rfl⟩
          subst hwq
          have Hcp2 : Hid (∀ i, i < k → wq.cell? ⟨b, off + i * 2, none⟩ = some (.int .u64 ((l.getD i (0, [])).1 : Nat))) := Lib.hid fun i hi => by
            rw [Hb2.out.cell (show b < w.heap.size from hbB)]; exact Hcp.out i hi
          clear Hcp
          have hbq : b < wq.heap.size := Nat.lt_of_lt_of_le hbB Hb2.out.size
          repeat' (first | go_values | go_skip | go_guarded | go_step | go_upon)
          refine gen_worldP (fun w' => Box2 wq w' (.int .u64 kind) (.string ⟨body.toArray⟩) 70) (Box2.alloc wq _ _ _) ?_
          rintro wx ⟨hbx, hx⟩
          have Hbx := Lib.hid hbx
          have Hx := Lib.hid hx
          clear hbx hx c0 c1
          have Hbldx := Lib.hid (Hbld2.out.keep Hbx.out (Nat.le_refl _))
          have Hbx2 := Lib.hid (Hb2.out.trans (Hbx.out.mono Hb2.out.size))
          have hxo : wo.heap.size ≤ wx.heap.size := by have := Hbldx.out.lt; omega
          have q0 : ∀ nq : WB wx, nq.1.cell? ⟨wq.heap.size, 0, none⟩ = some (.int .u64 kind) := fun nq => two_c0 (heap_keep Hx.out nq.2)
          have hcase : (j = 0 ∨ ∃ i, j = i + 1 ∧ (l.getD i (0, [])).1 < kind) ∨ ∃ i, j = i + 1 ∧ kind ≤ (l.getD i (0, [])).1 := by
            rcases Nat.eq_zero_or_pos j with h | h
            · exact .inl (.inl h)
            · rcases Nat.lt_or_ge (l.getD (j - 1) (0, [])).1 kind with h2 | h2
              · exact .inl (.inr ⟨j - 1, by omega, h2⟩)
              · exact .inr ⟨j - 1, by omega, h2⟩
          rcases hcase with hcase | ⟨i, rfl, hki⟩
          · have Hrt : Hid (risesTo l (j + 1) = true) := Lib.hid (by
              rw [Hrs.out, Hri.out]
              rcases hcase with rfl | ⟨i, rfl, h⟩
              · rfl
              · simpa using h)
            clear Hrs
            rcases hcase with rfl | ⟨i, rfl, hki⟩
            · repeat' (first | go_values | go_skip | go_guarded | go_step | go_upon)
              refine wp_region_wb (by kernel_rfl) (by kernel_rfl) wx (Below.refl _ _) ?_
              repeat (go_big_quiet_step ((fail)))
              refine wpQuiet_nil ?_
              rintro _ ⟨nq, rfl⟩
              have hnq := nq.2
              clear q0
              have Hxn := Lib.hid (heap_keep Hx.out hnq)
              have hbn := Hbldx.out.keep hnq (Nat.le_refl _)
              have Hbn := Lib.hid (Hbx2.out.trans (hnq.mono Hbx2.out.size))
              have n0 := two_c0 Hxn.out
              have n1 := two_c1 Hxn.out
              have hxg : wq.heap.size ≠ wo.heap.size := by have := Hbld2.out.lt; omega
              clear Hbldx hnq
              repeat' (first | go_values | go_skip | go_guarded | go_step | go_upon)
              clear n0 n1
              refine Calls.mono (wire_Put kind _ ho1) ?_
              rintro _ w3 ⟨rfl, hb3⟩
              dsimp only
              have hbld3 := hbn.keep hb3 (Nat.le_refl _)
              have Hx3 := Lib.hid (heap_keep Hxn.out hb3)
              have Hb3 := Lib.hid (Hbn.out.trans (hb3.mono Hbn.out.size))
              have hs3 : wo.heap.size ≤ w3.heap.size := by have := hbld3.lt; omega
              clear hbn Hxn Hbn hb3
              have hv1 := vput_len10 ho1
              have hlj := Hlj.out
              repeat' (first | go_values | go_skip | go_guarded | go_step | go_upon)
              refine Calls.mono (bld_WriteString wo.heap.size wo.heap.size _ _ _ hbld3 (by rw [ba_size]; omega) hs3) ?_
              rintro _ w4 ⟨rfl, hbld4, hb4, hap4⟩
              dsimp only
              have Hx4 := Lib.hid (hap4.row Hx3.out (by decide) hxg)
              have Hb4 := Lib.hid (Hb3.out.trans (hb4.mono hwo))
              clear hbld3 Hx3 Hb3 hb4 hap4 hs3
              have n1 := two_c1 Hx4.out
              repeat' (first | go_values | go_skip | go_guarded | go_step | go_upon)
              clear n1
              refine Calls.mono (wire_PutText ⟨body.toArray⟩ (by rw [ba_size]; omega) _) ?_
              rintro _ w5 ⟨rfl, hb5⟩
              dsimp only
              have hbld5 := hbld4.keep hb5 (Nat.le_refl _)
              have Hb5 := Lib.hid (Hb4.out.trans (hb5.mono Hb4.out.size))
              have hs5 : wo.heap.size ≤ w5.heap.size := by have := hbld5.lt; omega
              clear hbld4 Hb4 hb5
              have hlp := Hln.out
              rw [Hps.out] at hlp
              simp only [List.length_append] at hlp
              repeat' (first | go_values | go_skip | go_guarded | go_step | go_upon)
              refine Calls.mono (bld_WriteString wo.heap.size wo.heap.size _ _ _ hbld5 (by rw [ba_size]; simp; omega) hs5) ?_
              rintro _ w6 ⟨rfl, hbld6, hb6, _⟩
              dsimp only
              have Hbld6 : Hid (Bld w6 wo.heap.size wo.heap.size (packTo l (0 + 1))) := Lib.hid (by rw [Hps.out]; simpa [ba_size] using hbld6)
              have Hb6 := Lib.hid (Hb5.out.trans (hb6.mono hwo))
              clear hbld5 Hb5 hs5 hbld6 hb6
              repeat' (first | go_values | go_skip | go_guarded | go_step | go_upon)
              go_roundw
              case rel => exact ⟨0 + 1, by go_num, hjk, Hb6, Hbld6, Hrt⟩
              case measure => simp [intOf]; omega
            · have q1 : ∀ nq : WB wx, nq.1.cell? ⟨b, off + i * 2, none⟩ = some (.int .u64 ((l.getD i (0, [])).1 : Nat)) := fun nq => by
                rw [nq.cell (by dsimp only; omega), Hbx.out.cell hbq]; exact Hcp2.out i (by omega)
              generalize (l.getD i (0, [])).1 = prev at q1 hki
              repeat' (first | go_values | go_skip | go_guarded | go_step | go_upon)
              refine wp_region_wb (by kernel_rfl) (by kernel_rfl) wx (Below.refl _ _) ?_
              repeat (go_big_quiet_step ((fail)))
              refine wpQuiet_nil ?_
              rintro _ ⟨nq, rfl⟩
              have hnq := nq.2
              clear q0 q1
              have Hxn := Lib.hid (heap_keep Hx.out hnq)
              have hbn := Hbldx.out.keep hnq (Nat.le_refl _)
              have Hbn := Lib.hid (Hbx2.out.trans (hnq.mono Hbx2.out.size))
              have n0 := two_c0 Hxn.out
              have n1 := two_c1 Hxn.out
              have hxg : wq.heap.size ≠ wo.heap.size := by have := Hbld2.out.lt; omega
              clear Hbldx hnq
              repeat' (first | go_values | go_skip | go_guarded | go_step | go_upon)
              clear n0 n1
              refine Calls.mono (wire_Put kind _ ho1) ?_
              rintro _ w3 ⟨rfl, hb3⟩
              dsimp only
              have hbld3 := hbn.keep hb3 (Nat.le_refl _)
              have Hx3 := Lib.hid (heap_keep Hxn.out hb3)
              have Hb3 := Lib.hid (Hbn.out.trans (hb3.mono Hbn.out.size))
              have hs3 : wo.heap.size ≤ w3.heap.size := by have := hbld3.lt; omega
              clear hbn Hxn Hbn hb3
              have hv1 := vput_len10 ho1
              have hlj := Hlj.out
              repeat' (first | go_values | go_skip | go_guarded | go_step | go_upon)
              refine Calls.mono (bld_WriteString wo.heap.size wo.heap.size _ _ _ hbld3 (by rw [ba_size]; omega) hs3) ?_
              rintro _ w4 ⟨rfl, hbld4, hb4, hap4⟩
              dsimp only
              have Hx4 := Lib.hid (hap4.row Hx3.out (by decide) hxg)
              have Hb4 := Lib.hid (Hb3.out.trans (hb4.mono hwo))
              clear hbld3 Hx3 Hb3 hb4 hap4 hs3
              have n1 := two_c1 Hx4.out
              repeat' (first | go_values | go_skip | go_guarded | go_step | go_upon)
              clear n1
              refine Calls.mono (wire_PutText ⟨body.toArray⟩ (by rw [ba_size]; omega) _) ?_
              rintro _ w5 ⟨rfl, hb5⟩
              dsimp only
              have hbld5 := hbld4.keep hb5 (Nat.le_refl _)
              have Hb5 := Lib.hid (Hb4.out.trans (hb5.mono Hb4.out.size))
              have hs5 : wo.heap.size ≤ w5.heap.size := by have := hbld5.lt; omega
              clear hbld4 Hb4 hb5
              have hlp := Hln.out
              rw [Hps.out] at hlp
              simp only [List.length_append] at hlp
              repeat' (first | go_values | go_skip | go_guarded | go_step | go_upon)
              refine Calls.mono (bld_WriteString wo.heap.size wo.heap.size _ _ _ hbld5 (by rw [ba_size]; simp; omega) hs5) ?_
              rintro _ w6 ⟨rfl, hbld6, hb6, _⟩
              dsimp only
              have Hbld6 : Hid (Bld w6 wo.heap.size wo.heap.size (packTo l ((i + 1) + 1))) := Lib.hid (by rw [Hps.out]; simpa [ba_size] using hbld6)
              have Hb6 := Lib.hid (Hb5.out.trans (hb6.mono hwo))
              clear hbld5 Hb5 hs5 hbld6 hb6
              repeat' (first | go_values | go_skip | go_guarded | go_step | go_upon)
              go_roundw
              case rel => exact ⟨(i + 1) + 1, by go_num, hjk, Hb6, Hbld6, Hrt⟩
              case measure => simp [intOf]; omega
          · rw [show i + 1 - 1 = i from rfl] at Hrs
            have q1 : ∀ nq : WB wx, nq.1.cell? ⟨b, off + i * 2, none⟩ = some (.int .u64 ((l.getD i (0, [])).1 : Nat)) := fun nq => by
              rw [nq.cell (by dsimp only; omega), Hbx.out.cell hbq]; exact Hcp2.out i (by omega)
            generalize (l.getD i (0, [])).1 = prev at q1 hki Hrs
            repeat' (first | go_values | go_skip | go_guarded | go_step | go_upon)
            refine wp_region_wb (by kernel_rfl) (by kernel_rfl) wx (Below.refl _ _) ?_
            repeat (go_big_quiet_step ((fail)))
            refine wpQuiet_nil ?_
            rintro _ ⟨nq, rfl⟩
            have hnq := nq.2
            clear q0 q1
            have e : r = ([], 1) := by
              rw [Hr2.out, risesTo_false (k := i + 1 + 1) (by rw [Hrs.out, Hri.out]; simpa using hki) hjk, if_neg (by decide)]
            subst e
            repeat' (first | go_values | go_skip | go_guarded | go_step | go_upon)
            go_ret2
            exact ⟨rfl, Hbx2.out.trans (hnq.mono Hbx2.out.size)⟩
        · obtain rfl : j = k := by omega
          have hbld := Hbld2.out
          rw [show packTo l j = packB l from by rw [← packTo_all, Hn.out]] at hbld
          have hpl := Hlen.out j (Nat.le_refl _)
          rw [show packTo l j = packB l from by rw [← packTo_all, Hn.out]] at hpl
          have e : r = (packB l ++ put4 (sumOn 0 (packB l)), 0) := by rw [Hr2.out, Hri.out, if_pos rfl]
          subst e
          have hs2 : wo.heap.size ≤ wr.heap.size := by have := hbld.lt; omega
          clear Hbld2 Hri Hr2 Hlen
          generalize hpk : packB l = bs at hbld hpl
          have Hpk := Lib.hid hpk; clear hpk
          repeat' (first | go_values | go_skip | go_guarded | go_step | go_upon)
          refine Calls.mono (bld_String wo.heap.size wo.heap.size bs _ hbld hs2) ?_
          rintro _ w3 ⟨rfl, hb3⟩
          dsimp only
          have Hb3 := Lib.hid (Hb2.out.trans (hb3.mono hwo))
          clear hbld hb3
          repeat' (first | go_values | go_skip | go_guarded | go_step | go_upon)
          refine Calls.mono (sum_Of ⟨bs.toArray⟩ (by rw [ba_size]; omega) _) ?_
          rintro _ w4 ⟨rfl, hb4⟩
          dsimp only
          have Hb4 := Lib.hid (Hb3.out.trans (hb4.mono Hb3.out.size))
          clear Hb3 hb4
          have hp4 : (put4 (sumOn 0 bs)).length = 4 := rfl
          repeat' (first | go_values | go_skip | go_guarded | go_step | go_upon)
          refine Calls.mono (wire_PutFour (sumOn 0 bs) _) ?_
          rintro _ w5 ⟨rfl, hb5⟩
          dsimp only
          have Hb5 := Lib.hid (Hb4.out.trans (hb5.mono Hb4.out.size))
          clear Hb4 hb5
          generalize hfs : put4 (sumOn 0 bs) = fs at hp4 ⊢
          have Hfs := Lib.hid hfs; clear hfs
          repeat' (first | go_values | go_skip | go_guarded | go_step | go_upon)
          go_ret2
          exact ⟨by rw [Hpk.out, Hfs.out]; exact ret_cat, Hb5.out⟩
set_option maxRecDepth 100000 in
set_option maxHeartbeats 2000000 in
theorem rp_Put (v : Value) (l : List Sec) (w : World) (h : RowOf secC 2 w v l) (hl : SecsOk l) :
    Calls Try.prog 16 #[v] w fun e w' => e = .returned (.tuple #[.string ⟨(putP l).1.toArray⟩, .int .i64 (putP l).2]) ∧ Below w.heap.size w w' := by
  obtain ⟨a, cap, rfl, hcap, hmx, hcell⟩ := h.open secC_len
  obtain ⟨r, hr⟩ : ∃ r, putP l = r := ⟨_, rfl⟩
  rw [hr]
  have Hr := Lib.hid hr; clear hr
  obtain ⟨n, hn⟩ : ∃ n, l.length = n := ⟨_, rfl⟩
  rw [hn] at hcap hcell ⊢
  have Hn := Lib.hid hn; clear hn h
  unfold maxLen at hmx
  go_enter Try.func16, Try.ntmps16
  repeat' (first | go_values | go_skip | go_guarded | go_step | go_upon)
  go_loopw [4, 6, 12] (fun s3 _ s8 w' => ∃ k : Nat, s8 = .int .i64 k ∧ k ≤ n ∧ s3 = .int .i64 (wsum l k) ∧ Hid (Below w.heap.size w w')) (fun _ _ s8 _ => n - (intOf s8).toNat)
  case atStart => exact ⟨0, rfl, Nat.zero_le _, rfl, Lib.hid (Below.refl _ _)⟩
  case round =>
    obtain ⟨k, rfl, hk, rfl, Hb⟩ := hrel
    by_cases hlt : k < n
    · rcases hcell with h0 | ⟨b, off, rfl, hbB, hcell⟩
      · omega
      have hcs := Row2.cells hcell k (by rw [Hn.out]; exact hlt)
      have hok := hl.at (k := k) (by rw [Hn.out]; exact hlt)
      clear hcell
      have hws := wsum_i64 l k
      have hs : wsum l (k + 1) = wrap64 (wsum l k + ((l.getD k (0, [])).2.length : Nat)) := rfl
      obtain ⟨c0, c1⟩ := hcs
      rw [← Hb.out.cell (show b < w.heap.size from hbB)] at c0 c1
      generalize l.getD k (0, []) = x at c0 c1 hs hok
      obtain ⟨kind, body⟩ := x
      dsimp only at c0 c1 hs hok
      have hbs := ba_size body
      generalize wsum l k = y at hs hws
      have Hs := Lib.hid hs; clear hs
      have Hws := Lib.hid hws; clear hws
      repeat' (first | go_values | go_skip | go_guarded | go_step | go_upon)
      go_roundw
      case rel => exact ⟨k + 1, by go_num, hlt, by rw [Hs.out], Lib.hid (Hb.out.alloc (by have := Hb.out.size; omega) _)⟩
      case measure => simp [intOf]; omega
    · obtain rfl : k = n := by omega
      by_cases h64 : 64 < k
      · have e : r = ([], 2) := by rw [← Hr.out]; unfold putP; rw [if_pos (.inl (by rw [Hn.out]; exact h64))]
        subst e
        repeat' (first | go_values | go_skip | go_guarded | go_step | go_upon)
        go_ret2
        exact ⟨rfl, Hb.out⟩
      have hws := wsum_small hl (by rw [Hn.out]; omega) k (by rw [Hn.out]; exact Nat.le_refl _)
      have htk : l.take k = l := by rw [← Hn.out, List.take_length]
      rw [htk] at hws
      rw [hws]
      clear hws
      by_cases hsz : 8388608 < sizeS l
      · have e : r = ([], 2) := by rw [← Hr.out]; unfold putP; rw [if_pos (.inr hsz)]
        subst e
        generalize sizeS l = sz at hsz
        repeat' (first | go_values | go_skip | go_guarded | go_step | go_upon)
        go_ret2
        exact ⟨rfl, Hb.out⟩
      have Hr2 : Hid (r = if risesTo l k = true then (packB l ++ put4 (sumOn 0 (packB l)), 0) else ([], 1)) := Lib.hid (by rw [← Hr.out]; unfold putP; rw [if_neg (by rw [Hn.out]; omega), Hn.out])
      clear Hr
      have Hlen : Hid (∀ j, j ≤ k → (packTo l j).length ≤ 10000000) := Lib.hid fun j hj => by
        have h1 := packTo_len hl (by rw [Hn.out]; omega) j (by rw [Hn.out]; exact hj)
        have h2 := sizeS_take_le l j
        omega
      have hku := u64_small (n := k) (by omega)
      have hkw : IntKind.u64.wrap (k : Int) = k := wu64 (by omega) hku
      have hb0 := beg_append
      have hvl := vput_len10 hku
      generalize sizeS l = sz at hsz
      obtain ⟨wo, hwo⟩ : ∃ wo : World, wo = wr := ⟨_, rfl⟩
      subst hwo
      repeat' (first | go_values | go_skip | go_guarded | go_step | go_upon)
      refine Calls.mono (ref_Put k _ hku) ?_
      rintro _ w1 ⟨rfl, hb1⟩
      dsimp only
      have Hb1 : Hid (Below w.heap.size w w1) := Lib.hid (Hb.out.trans (hb1.mono Hb.out.size))
      have Hs0 : Hid (begB ++ vput k = packTo l 0) := Lib.hid (by simp [packTo, Hn.out])
      clear hb1
      repeat' (first | go_values | go_skip | go_guarded | go_step | go_upon)
      rw [Hs0.out]
      clear hb0 Hs0
      go_loopw [7, 8, 9, 36] (fun s7 _ _ s36 w' => ∃ j : Nat, s36 = .int .i64 j ∧ j ≤ k ∧ s7 = .string ⟨(packTo l j).toArray⟩ ∧ Hid (Below w.heap.size w w') ∧ Hid (risesTo l j = true)) (fun _ _ _ s36 _ => k - (intOf s36).toNat)
      case atStart => exact ⟨0, rfl, Nat.zero_le _, rfl, Hb1, Lib.hid rfl⟩
      case round =>
        clear Hb1
        obtain ⟨j, rfl, hj, rfl, Hb2, Hri⟩ := hrel
        by_cases hjk : j < k
        · rcases hcell with h0 | ⟨b, off, rfl, hbB, hcell⟩
          · omega
          obtain ⟨c0, c1⟩ := Row2.cells hcell j (by rw [Hn.out]; exact hjk)
          obtain ⟨ho1, ho2⟩ := hl.at (k := j) (by rw [Hn.out]; exact hjk)
          have Hps := Lib.hid (packTo_succ l j (by rw [Hn.out]; exact hjk))
          have Hrs := Lib.hid (risesTo_succ l j)
          have Hln := Lib.hid (Hlen.out (j + 1) hjk)
          have hlj := Hlen.out j hj
          have Hcp := Lib.hid (fun i (hi : i < k) => (Row2.cells hcell i (by rw [Hn.out]; exact hi)).1)
          clear hcell
          rw [← Hb2.out.cell (show b < w.heap.size from hbB)] at c0 c1
          generalize l.getD j (0, []) = x at c0 c1 Hps Hrs ho1 ho2
          obtain ⟨kind, body⟩ := x
          dsimp only at c0 c1 ho1 ho2 Hps Hrs
          have hbs := ba_size body
          obtain ⟨wq, hwq⟩ : ∃ wq : World, wq = wr := ⟨_, rfl⟩
          subst hwq
          have Hcp2 : Hid (∀ i, i < k → wq.cell? ⟨b, off + i * 2, none⟩ = some (.int .u64 ((l.getD i (0, [])).1 : Nat))) := Lib.hid fun i hi => by
            rw [Hb2.out.cell (show b < w.heap.size from hbB)]; exact Hcp.out i hi
          clear Hcp
          have hbq : b < wq.heap.size := Nat.lt_of_lt_of_le hbB Hb2.out.size
          generalize packTo l j = bs at hlj Hps
          repeat' (first | go_values | go_skip | go_guarded | go_step | go_upon)
          refine gen_worldP (fun w' => Box2 wq w' (.int .u64 kind) (.string ⟨body.toArray⟩) 70) (Box2.alloc wq _ _ _) ?_
          rintro wx ⟨hbx, hx⟩
          have Hbx := Lib.hid hbx
          have Hx := Lib.hid hx
          clear hbx hx c0 c1
          have Hbx2 := Lib.hid (Hb2.out.trans (Hbx.out.mono Hb2.out.size))
          have hxs := Hbx.out.size
          have q0 : ∀ nq : WB wx, nq.1.cell? ⟨wq.heap.size, 0, none⟩ = some (.int .u64 kind) := fun nq => two_c0 (heap_keep Hx.out nq.2)
          have hcase : (j = 0 ∨ ∃ i, j = i + 1 ∧ (l.getD i (0, [])).1 < kind) ∨ ∃ i, j = i + 1 ∧ kind ≤ (l.getD i (0, [])).1 := by
            rcases Nat.eq_zero_or_pos j with h | h
            · exact .inl (.inl h)
            · rcases Nat.lt_or_ge (l.getD (j - 1) (0, [])).1 kind with h2 | h2
              · exact .inl (.inr ⟨j - 1, by omega, h2⟩)
              · exact .inr ⟨j - 1, by omega, h2⟩
          rcases hcase with hcase | ⟨i, rfl, hki⟩
          · have Hrt : Hid (risesTo l (j + 1) = true) := Lib.hid (by
              rw [Hrs.out, Hri.out]
              rcases hcase with rfl | ⟨i, rfl, h⟩
              · rfl
              · simpa using h)
            clear Hrs
            have hlp := Hln.out
            rw [Hps.out] at hlp
            simp only [List.length_append] at hlp
            have hv1 := vput_len10 ho1
            rcases hcase with rfl | ⟨i, rfl, hki⟩
            · repeat' (first | go_values | go_skip | go_guarded | go_step | go_upon)
              refine wp_region_wb (by kernel_rfl) (by kernel_rfl) wx (Below.refl _ _) ?_
              repeat (go_big_quiet_step ((fail)))
              refine wpQuiet_nil ?_
              rintro _ ⟨nq, rfl⟩
              have hnq := nq.2
              clear q0
              have Hxn := Lib.hid (heap_keep Hx.out hnq)
              have Hbn := Lib.hid (Hbx2.out.trans (hnq.mono Hbx2.out.size))
              obtain ⟨wy, hwy⟩ : ∃ wy : World, wy = nq.1 := ⟨_, rfl⟩
              rw [← hwy] at Hxn Hbn ⊢
              clear hwy hnq
              have n0 : ∀ nq : WB wy, nq.1.cell? ⟨wq.heap.size, 0, none⟩ = some (.int .u64 kind) := fun nq => two_c0 (heap_keep Hxn.out nq.2)
              have n1 : ∀ nq : WB wy, nq.1.cell? ⟨wq.heap.size, 1, none⟩ = some (.string ⟨body.toArray⟩) := fun nq => two_c1 (heap_keep Hxn.out nq.2)
              have Hpt := Lib.hid (fun w => ref_PutText ⟨body.toArray⟩ (by rw [ba_size]; omega) w)
              rw [ba_size] at Hpt
              repeat' (first | go_values | go_skip | go_guarded | go_step | go_upon)
              refine wp_region_wb (by kernel_rfl) (by kernel_rfl) wy (Below.refl _ _) ?_
              repeat (go_big_quiet_step ((first | (go_at_call 33; with_reducible exact calls_wb (ref_Put kind _ ho1)) | (go_at_call 35; with_reducible exact calls_wb (Hpt.out _)))))
              refine wpQuiet_nil ?_
              rintro _ ⟨nq, rfl⟩
              have hnq := nq.2
              clear n0 n1
              repeat' (first | go_values | go_skip | go_guarded | go_step | go_upon)
              go_roundw
              case rel => exact ⟨0 + 1, by go_num, hjk, by rw [Hps.out, arr_append, arr_append], Lib.hid (Hbn.out.trans (hnq.mono Hbn.out.size)), Hrt⟩
              case measure => simp [intOf]; omega
            · have q1 : ∀ nq : WB wx, nq.1.cell? ⟨b, off + i * 2, none⟩ = some (.int .u64 ((l.getD i (0, [])).1 : Nat)) := fun nq => by
                rw [nq.cell (by dsimp only; omega), Hbx.out.cell hbq]; exact Hcp2.out i (by omega)
              generalize (l.getD i (0, [])).1 = prev at q1 hki
              repeat' (first | go_values | go_skip | go_guarded | go_step | go_upon)
              refine wp_region_wb (by kernel_rfl) (by kernel_rfl) wx (Below.refl _ _) ?_
              repeat (go_big_quiet_step ((fail)))
              refine wpQuiet_nil ?_
              rintro _ ⟨nq, rfl⟩
              have hnq := nq.2
              clear q0 q1
              have Hxn := Lib.hid (heap_keep Hx.out hnq)
              have Hbn := Lib.hid (Hbx2.out.trans (hnq.mono Hbx2.out.size))
              obtain ⟨wy, hwy⟩ : ∃ wy : World, wy = nq.1 := ⟨_, rfl⟩
              rw [← hwy] at Hxn Hbn ⊢
              clear hwy hnq
              have n0 : ∀ nq : WB wy, nq.1.cell? ⟨wq.heap.size, 0, none⟩ = some (.int .u64 kind) := fun nq => two_c0 (heap_keep Hxn.out nq.2)
              have n1 : ∀ nq : WB wy, nq.1.cell? ⟨wq.heap.size, 1, none⟩ = some (.string ⟨body.toArray⟩) := fun nq => two_c1 (heap_keep Hxn.out nq.2)
              have Hpt := Lib.hid (fun w => ref_PutText ⟨body.toArray⟩ (by rw [ba_size]; omega) w)
              rw [ba_size] at Hpt
              repeat' (first | go_values | go_skip | go_guarded | go_step | go_upon)
              refine wp_region_wb (by kernel_rfl) (by kernel_rfl) wy (Below.refl _ _) ?_
              repeat (go_big_quiet_step ((first | (go_at_call 33; with_reducible exact calls_wb (ref_Put kind _ ho1)) | (go_at_call 35; with_reducible exact calls_wb (Hpt.out _)))))
              refine wpQuiet_nil ?_
              rintro _ ⟨nq, rfl⟩
              have hnq := nq.2
              clear n0 n1
              repeat' (first | go_values | go_skip | go_guarded | go_step | go_upon)
              go_roundw
              case rel => exact ⟨(i + 1) + 1, by go_num, hjk, by rw [Hps.out, arr_append, arr_append], Lib.hid (Hbn.out.trans (hnq.mono Hbn.out.size)), Hrt⟩
              case measure => simp [intOf]; omega
          · rw [show i + 1 - 1 = i from rfl] at Hrs
            have q1 : ∀ nq : WB wx, nq.1.cell? ⟨b, off + i * 2, none⟩ = some (.int .u64 ((l.getD i (0, [])).1 : Nat)) := fun nq => by
              rw [nq.cell (by dsimp only; omega), Hbx.out.cell hbq]; exact Hcp2.out i (by omega)
            generalize (l.getD i (0, [])).1 = prev at q1 hki Hrs
            repeat' (first | go_values | go_skip | go_guarded | go_step | go_upon)
            refine wp_region_wb (by kernel_rfl) (by kernel_rfl) wx (Below.refl _ _) ?_
            repeat (go_big_quiet_step ((fail)))
            refine wpQuiet_nil ?_
            rintro _ ⟨nq, rfl⟩
            have hnq := nq.2
            clear q0 q1
            have e : r = ([], 1) := by
              rw [Hr2.out, risesTo_false (k := i + 1 + 1) (by rw [Hrs.out, Hri.out]; simpa using hki) hjk, if_neg (by decide)]
            subst e
            repeat' (first | go_values | go_skip | go_guarded | go_step | go_upon)
            go_ret2
            exact ⟨rfl, Hbx2.out.trans (hnq.mono Hbx2.out.size)⟩
        · obtain rfl : j = k := by omega
          have hpl := Hlen.out j (Nat.le_refl _)
          have hpb : packTo l j = packB l := by rw [← packTo_all, Hn.out]
          rw [hpb] at hpl ⊢
          have e : r = (packB l ++ put4 (sumOn 0 (packB l)), 0) := by rw [Hr2.out, Hri.out, if_pos rfl]
          subst e
          clear Hri Hr2 Hlen hpb
          generalize hpk : packB l = bs at hpl ⊢
          have Hpk := Lib.hid hpk; clear hpk
          repeat' (first | go_values | go_skip | go_guarded | go_step | go_upon)
          refine Calls.mono (ref_Of ⟨bs.toArray⟩ (by rw [ba_size]; omega) _) ?_
          rintro _ _ ⟨rfl, rfl⟩
          dsimp only
          have hp4 : (put4 (sumOn 0 bs)).length = 4 := rfl
          repeat' (first | go_values | go_skip | go_guarded | go_step | go_upon)
          refine Calls.mono (ref_PutFour (sumOn 0 bs) (le_u32 (sumOn_lt _ _)) _) ?_
          rintro _ w5 ⟨rfl, hb5⟩
          dsimp only
          generalize hfs : put4 (sumOn 0 bs) = fs at hp4 ⊢
          have Hfs := Lib.hid hfs; clear hfs
          repeat' (first | go_values | go_skip | go_guarded | go_step | go_upon)
          go_ret2
          exact ⟨by rw [Hpk.out, Hfs.out]; exact ret_cat, Hb2.out.trans (hb5.mono Hb2.out.size)⟩
end Go.Proofs.Ytbomloodllddaaa
