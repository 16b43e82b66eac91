/- Walks: two rows of numbers, two hashes, two programs, compared by the reference. Conditions: they lie in memory, and are alike. -/
import Derived.Test.YtbomloodllddaaaPk17
import Derived.Test.YtbomloodllddaaaPk35
import Derived.Test.YtbomloodllddaaaPk21
namespace Go.Proofs.Ytbomloodllddaaa
open Go.RowKit
theorem intC_len25 (x : Int) : (intC x).length = 1 := rfl
theorem u32C_lenL (x : Nat) : (u32C x).length = 1 := rfl
theorem u64C_lenL (x : Nat) : (u64C x).length = 1 := rfl
set_option maxRecDepth 100000 in
set_option maxHeartbeats 1000000 in
theorem r07_Ints (v1 v2 : Value) (l : List Int) (w : World) (h1 : RowOf intC 1 w v1 l) (h2 : RowOf intC 1 w v2 l) :
    Calls Try.prog 50 #[v1, v2] w fun e w' => e = .returned (.bool true) ∧ Below w.heap.size w w' := by
  obtain ⟨a1, cap1, rfl, hcap1, hmx1, hcell1⟩ := h1.open intC_len25
  obtain ⟨a2, cap2, rfl, hcap2, hmx2, hcell2⟩ := h2.open intC_len25
  obtain ⟨n, hn⟩ : ∃ n, l.length = n := ⟨_, rfl⟩
  rw [hn] at hcap1 hcell1 hcap2 hcell2 ⊢
  have Hn := Lib.hid hn; clear hn h1 h2
  unfold maxLen at hmx1 hmx2
  go_enter Try.func50, Try.ntmps50
  repeat' (first | go_values | go_skip | go_guarded | go_step | go_upon)
  go_loopw [5, 13] (fun _ s13 w' => ∃ k : Nat, s13 = .int .i64 k ∧ k ≤ n ∧ Hid (Below w.heap.size w w')) (fun _ s13 _ => n - (intOf s13).toNat)
  case atStart => exact ⟨0, rfl, Nat.zero_le _, Lib.hid (Below.refl _ _)⟩
  case round =>
    obtain ⟨k, rfl, hk, Hb⟩ := hrel
    by_cases hlt : k < n
    · rcases hcell1 with h0 | ⟨b1, o1, rfl, hb1, hcell1⟩
      · omega
      rcases hcell2 with h0 | ⟨b2, o2, rfl, hb2, hcell2⟩
      · omega
      obtain ⟨x, hx⟩ : ∃ x, l[k]? = some x := ⟨_, List.getElem?_eq_getElem (by rw [Hn.out]; exact hlt)⟩
      have c0 := hcell1 k x 0 hx (by decide)
      have d0 := hcell2 k x 0 hx (by decide)
      rw [Nat.mul_one, Nat.add_zero] at c0 d0
      clear hcell1 hcell2 hx
      have hl1 : b1 < wr.heap.size := Nat.lt_of_lt_of_le hb1 Hb.out.size
      have hl2 : b2 < wr.heap.size := Nat.lt_of_lt_of_le hb2 Hb.out.size
      have q0 : ∀ nq : WB wr, nq.1.cell? ⟨b1, o1 + k, none⟩ = some (.int .i64 x) := fun nq => by rw [nq.cell hl1, Hb.out.cell (show b1 < w.heap.size from hb1)]; exact c0
      have q1 : ∀ nq : WB wr, nq.1.cell? ⟨b2, o2 + k, none⟩ = some (.int .i64 x) := fun nq => by rw [nq.cell hl2, Hb.out.cell (show b2 < w.heap.size from hb2)]; exact d0
      clear c0 d0
      repeat' (first | go_values | go_skip | go_guarded | go_step | go_upon)
      refine wp_region_wb (by kernel_rfl) (by kernel_rfl) wr (Below.refl _ _) ?_
      repeat (go_big_quiet_step ((fail)))
      refine wpQuiet_nil ?_
      rintro _ ⟨nq, rfl⟩
      have hnq := nq.2
      clear q0 q1
      repeat' (first | go_values | go_skip | go_guarded | go_step | go_upon)
      go_roundw
      case rel => exact ⟨k + 1, by go_num, hlt, Lib.hid (Hb.out.trans (hnq.mono Hb.out.size))⟩
      case measure => simp [intOf]; omega
    · obtain rfl : k = n := by omega
      repeat' (first | go_values | go_skip | go_guarded | go_step | go_upon)
      go_ret
      exact ⟨rfl, Hb.out⟩
/-- a cell of a row -/
theorem row_cell {α : Type} {f : α → List Value} {w wr : World} {a : Option Addr} {n cap : Nat} {l : List α} (hf : ∀ x, (f x).length = 1) (h : RowOf f 1 w (.slice a n cap) l) (hb : Below w.heap.size w wr) (k : Nat) (x : α) (hx : l[k]? = some x) :
    ∃ b o, a = some ⟨b, o, none⟩ ∧ b < wr.heap.size ∧ wr.cell? ⟨b, o + k, none⟩ = (f x)[0]? := by
  obtain ⟨a', cap', e, _, _, hc⟩ := h.open hf
  simp only [Value.slice.injEq] at e
  obtain ⟨rfl, _, _⟩ := e
  rcases hc with h0 | ⟨b, o, rfl, hbw, hc⟩
  · rw [List.getElem?_eq_none (by omega)] at hx; cases hx
  · refine ⟨b, o, rfl, Nat.lt_of_lt_of_le hbw hb.size, ?_⟩
    rw [hb.cell (show b < w.heap.size from hbw)]
    have := hc k x 0 hx (by decide)
    rwa [Nat.mul_one, Nat.add_zero] at this
theorem heap_two_old (w : World) (A B : Obj) : ((w.alloc A).alloc B).heap[w.heap.size]? = some A := by
  have h : Below (w.alloc A).heap.size (w.alloc A) ((w.alloc A).alloc B) := (Below.refl _ _).alloc (Nat.le_refl _) _
  rw [h.block w.heap.size (by simp)]; exact Go.heap_alloc_new _ _
structure H2 (w0 : World) (g1 g2 : Nat) (c1 c2 : Array Value) (w : World) : Prop where
  bel : Below w0.heap.size w0 w
  b1 : w.heap[g1]? = some (.cells c1 28 (0, 0))
  b2 : w.heap[g2]? = some (.cells c2 28 (0, 0))
theorem H2.step {w0 w w' : World} {g1 g2 : Nat} {c1 c2 : Array Value} (h : H2 w0 g1 g2 c1 c2 w) (hb : Below w.heap.size w w') : H2 w0 g1 g2 c1 c2 w' :=
  ⟨h.bel.trans (hb.mono h.bel.size), by rw [hb.block g1 (Array.getElem?_eq_some_iff.1 h.b1).1]; exact h.b1, by rw [hb.block g2 (Array.getElem?_eq_some_iff.1 h.b2).1]; exact h.b2⟩
theorem H2.cells {w0 w : World} {g1 g2 : Nat} {c1 c2 : Array Value} (h : H2 w0 g1 g2 c1 c2 w) (k : Nat) : w.cell? ⟨g1, k, none⟩ = c1[k]? ∧ w.cell? ⟨g2, k, none⟩ = c2[k]? := ⟨cell_of_row w g1 k _ _ _ h.b1, cell_of_row w g2 k _ _ _ h.b2⟩
set_option maxRecDepth 100000 in
set_option maxHeartbeats 2000000 in
theorem r15_Like (s1 k1 v1 s2 k2 v2 : Value) (h : HashP) (w : World) (H1 : HashAt w s1 k1 v1 h) (H2' : HashAt w s2 k2 v2 h) :
    Calls Try.prog 49 #[.agg #[s1, k1, v1], .agg #[s2, k2, v2]] w fun e w' => e = .returned (.bool true) ∧ Below w.heap.size w w' := by
  obtain ⟨as1, cs1, rfl, _, ms1⟩ := H1.seeds.slice
  obtain ⟨ak1, ck1, rfl, _, mk1⟩ := H1.keys.slice
  obtain ⟨av1, cv1, rfl, _, mv1⟩ := H1.vals.slice
  obtain ⟨as2, cs2, rfl, _, ms2⟩ := H2'.seeds.slice
  obtain ⟨ak2, ck2, rfl, _, mk2⟩ := H2'.keys.slice
  obtain ⟨av2, cv2, rfl, _, mv2⟩ := H2'.vals.slice
  unfold maxLen at *
  obtain ⟨ns, hns⟩ : ∃ n, n = h.seeds.length := ⟨_, rfl⟩
  obtain ⟨nk, hnk⟩ : ∃ n, n = h.keys.length := ⟨_, rfl⟩
  obtain ⟨nv, hnv⟩ : ∃ n, n = h.vals.length := ⟨_, rfl⟩
  have HS := Lib.hid H1.seeds
  have HS2 := Lib.hid H2'.seeds
  have HK := Lib.hid H1.keys
  have HK2 := Lib.hid H2'.keys
  have HV := Lib.hid H1.vals
  have HV2 := Lib.hid H2'.vals
  have hms : ns ≤ 9223372036854775807 := by omega
  have hmk : nk ≤ 9223372036854775807 := by omega
  have hmv : nv ≤ 9223372036854775807 := by omega
  rw [← hns] at HS HS2
  rw [← hnk] at HK HK2
  rw [← hnv] at HV HV2
  rw [← hns, ← hnk, ← hnv]
  have Hns := Lib.hid hns
  have Hnk := Lib.hid hnk
  have Hnv := Lib.hid hnv
  clear H1 H2' hns hnk hnv ms1 mk1 mv1 ms2 mk2 mv2
  have HM : Hid (H2 w w.heap.size (w.heap.size + 1) #[.slice as1 ns cs1, .slice ak1 nk ck1, .slice av1 nv cv1] #[.slice as2 ns cs2, .slice ak2 nk ck2, .slice av2 nv cv2] ((w.alloc (.cells #[.slice as1 ns cs1, .slice ak1 nk ck1, .slice av1 nv cv1] 28)).alloc (.cells #[.slice as2 ns cs2, .slice ak2 nk ck2, .slice av2 nv cv2] 28))) := Lib.hid
    ⟨((Below.refl _ _).alloc (Nat.le_refl _) _).alloc (by simp) _, heap_two_old _ _ _, by have := Go.heap_alloc_new (w.alloc (.cells #[.slice as1 ns cs1, .slice ak1 nk ck1, .slice av1 nv cv1] 28)) (.cells #[.slice as2 ns cs2, .slice ak2 nk ck2, .slice av2 nv cv2] 28); simpa using this⟩
  go_enter Try.func49, Try.ntmps49
  repeat' (go_not_at_region 1; first | go_values | go_skip | go_guarded | go_step | go_upon)
  obtain ⟨g1, hg1⟩ : ∃ g, g = w.heap.size := ⟨_, rfl⟩
  rw [← hg1] at HM ⊢
  refine gen_wd (fun W => H2 w g1 (g1 + 1) #[.slice as1 ns cs1, .slice ak1 nk ck1, .slice av1 nv cv1] #[.slice as2 ns cs2, .slice ak2 nk ck2, .slice av2 nv cv2] W) HM.out ?_
  intro wa hma
  have HA := Lib.hid hma
  clear hma HM hg1
  have z0 : wa.cell? ⟨g1, 0, none⟩ = some (.slice as1 ns cs1) := (HA.out.cells 0).1
  have z1 : wa.cell? ⟨g1, 1, none⟩ = some (.slice ak1 nk ck1) := (HA.out.cells 1).1
  have z2 : wa.cell? ⟨g1, 2, none⟩ = some (.slice av1 nv cv1) := (HA.out.cells 2).1
  have y0 : wa.cell? ⟨g1 + 1, 0, none⟩ = some (.slice as2 ns cs2) := (HA.out.cells 0).2
  have y1 : wa.cell? ⟨g1 + 1, 1, none⟩ = some (.slice ak2 nk ck2) := (HA.out.cells 1).2
  have y2 : wa.cell? ⟨g1 + 1, 2, none⟩ = some (.slice av2 nv cv2) := (HA.out.cells 2).2
  repeat' (first | go_values | go_skip | go_guarded | go_step | go_upon)
  clear z0 z1 z2 y0 y1 y2
  go_loopw [5, 36] (fun _ sc w' => ∃ k : Nat, sc = .int .i64 k ∧ k ≤ ns ∧ Hid (H2 w g1 (g1 + 1) #[.slice as1 ns cs1, .slice ak1 nk ck1, .slice av1 nv cv1] #[.slice as2 ns cs2, .slice ak2 nk ck2, .slice av2 nv cv2] w')) (fun _ sc _ => ns - (intOf sc).toNat)
  case atStart => exact ⟨0, rfl, Nat.zero_le _, HA⟩
  case round =>
    clear HA
    obtain ⟨k, rfl, hk, HM⟩ := hrel
    by_cases hlt : k < ns
    · obtain ⟨x, hx⟩ : ∃ x, h.seeds[k]? = some x := ⟨_, List.getElem?_eq_getElem (by rw [← Hns.out]; exact hlt)⟩
      obtain ⟨b1, o1, rfl, hb1, e1⟩ := row_cell u32C_lenL HS.out HM.out.bel k x hx
      obtain ⟨b2, o2, rfl, hb2, e2⟩ := row_cell u32C_lenL HS2.out HM.out.bel k x hx
      have q0 : ∀ nq : WB wr, nq.1.cell? ⟨b1, o1 + k, none⟩ = some (.int .u32 x) := fun nq => by rw [nq.cell hb1]; exact e1
      have q1 : ∀ nq : WB wr, nq.1.cell? ⟨b2, o2 + k, none⟩ = some (.int .u32 x) := fun nq => by rw [nq.cell hb2]; exact e2
      have q2 : ∀ nq : WB wr, nq.1.cell? ⟨g1, 0, none⟩ = some (.slice (some ⟨b1, o1, none⟩) ns cs1) := fun nq => ((HM.out.step nq.2).cells 0).1
      have q3 : ∀ nq : WB wr, nq.1.cell? ⟨g1 + 1, 0, none⟩ = some (.slice (some ⟨b2, o2, none⟩) ns cs2) := fun nq => ((HM.out.step nq.2).cells 0).2
      clear e1 e2 hx
      repeat' (first | go_values | go_skip | go_guarded | go_step | go_upon)
      refine wp_region_wb (by kernel_rfl) (by kernel_rfl) wr (Below.refl _ _) ?_
      repeat (go_big_quiet_step ((fail)))
      refine wpQuiet_nil ?_
      rintro _ ⟨nq, rfl⟩
      have hnq := nq.2
      have HN := Lib.hid (HM.out.step hnq)
      clear q0 q1 q2 q3 hnq
      repeat' (first | go_values | go_skip | go_guarded | go_step | go_upon)
      go_roundw
      case rel => exact ⟨k + 1, by go_num, hlt, HN⟩
      case measure => simp [intOf]; omega
    · obtain rfl : ns = k := by omega
      have HA := Lib.hid HM.out
      clear HM hk hlt
      have z1 : wr.cell? ⟨g1, 1, none⟩ = some (.slice ak1 nk ck1) := (HA.out.cells 1).1
      repeat' (first | go_values | go_skip | go_guarded | go_step | go_upon)
      clear z1
      go_loopw [6, 54] (fun _ sc w' => ∃ k : Nat, sc = .int .i64 k ∧ k ≤ nk ∧ Hid (H2 w g1 (g1 + 1) #[.slice as1 ns cs1, .slice ak1 nk ck1, .slice av1 nv cv1] #[.slice as2 ns cs2, .slice ak2 nk ck2, .slice av2 nv cv2] w')) (fun _ sc _ => nk - (intOf sc).toNat)
      case atStart => exact ⟨0, rfl, Nat.zero_le _, HA⟩
      case round =>
        clear HA
        obtain ⟨k, rfl, hk, HM⟩ := hrel
        by_cases hlt : k < nk
        · obtain ⟨x, hx⟩ : ∃ x, h.keys[k]? = some x := ⟨_, List.getElem?_eq_getElem (by rw [← Hnk.out]; exact hlt)⟩
          obtain ⟨b1, o1, rfl, hb1, e1⟩ := row_cell u64C_lenL HK.out HM.out.bel k x hx
          obtain ⟨b2, o2, rfl, hb2, e2⟩ := row_cell u64C_lenL HK2.out HM.out.bel k x hx
          have q0 : ∀ nq : WB wr, nq.1.cell? ⟨b1, o1 + k, none⟩ = some (.int .u64 x) := fun nq => by rw [nq.cell hb1]; exact e1
          have q1 : ∀ nq : WB wr, nq.1.cell? ⟨b2, o2 + k, none⟩ = some (.int .u64 x) := fun nq => by rw [nq.cell hb2]; exact e2
          have q2 : ∀ nq : WB wr, nq.1.cell? ⟨g1, 1, none⟩ = some (.slice (some ⟨b1, o1, none⟩) nk ck1) := fun nq => ((HM.out.step nq.2).cells 1).1
          have q3 : ∀ nq : WB wr, nq.1.cell? ⟨g1 + 1, 1, none⟩ = some (.slice (some ⟨b2, o2, none⟩) nk ck2) := fun nq => ((HM.out.step nq.2).cells 1).2
          clear e1 e2 hx
          repeat' (first | go_values | go_skip | go_guarded | go_step | go_upon)
          refine wp_region_wb (by kernel_rfl) (by kernel_rfl) wr (Below.refl _ _) ?_
          repeat (go_big_quiet_step ((fail)))
          refine wpQuiet_nil ?_
          rintro _ ⟨nq, rfl⟩
          have hnq := nq.2
          have HN := Lib.hid (HM.out.step hnq)
          clear q0 q1 q2 q3 hnq
          repeat' (first | go_values | go_skip | go_guarded | go_step | go_upon)
          go_roundw
          case rel => exact ⟨k + 1, by go_num, hlt, HN⟩
          case measure => simp [intOf]; omega
        · obtain rfl : nk = k := by omega
          have HA := Lib.hid HM.out
          clear HM hk hlt
          have z1 : wr.cell? ⟨g1, 2, none⟩ = some (.slice av1 nv cv1) := (HA.out.cells 2).1
          repeat' (first | go_values | go_skip | go_guarded | go_step | go_upon)
          clear z1
          go_loopw [7, 72] (fun _ sc w' => ∃ k : Nat, sc = .int .i64 k ∧ k ≤ nv ∧ Hid (H2 w g1 (g1 + 1) #[.slice as1 ns cs1, .slice ak1 nk ck1, .slice av1 nv cv1] #[.slice as2 ns cs2, .slice ak2 nk ck2, .slice av2 nv cv2] w')) (fun _ sc _ => nv - (intOf sc).toNat)
          case atStart => exact ⟨0, rfl, Nat.zero_le _, HA⟩
          case round =>
            clear HA
            obtain ⟨k, rfl, hk, HM⟩ := hrel
            by_cases hlt : k < nv
            · obtain ⟨x, hx⟩ : ∃ x, h.vals[k]? = some x := ⟨_, List.getElem?_eq_getElem (by rw [← Hnv.out]; exact hlt)⟩
              obtain ⟨b1, o1, rfl, hb1, e1⟩ := row_cell u64C_lenL HV.out HM.out.bel k x hx
              obtain ⟨b2, o2, rfl, hb2, e2⟩ := row_cell u64C_lenL HV2.out HM.out.bel k x hx
              have q0 : ∀ nq : WB wr, nq.1.cell? ⟨b1, o1 + k, none⟩ = some (.int .u64 x) := fun nq => by rw [nq.cell hb1]; exact e1
              have q1 : ∀ nq : WB wr, nq.1.cell? ⟨b2, o2 + k, none⟩ = some (.int .u64 x) := fun nq => by rw [nq.cell hb2]; exact e2
              have q2 : ∀ nq : WB wr, nq.1.cell? ⟨g1, 2, none⟩ = some (.slice (some ⟨b1, o1, none⟩) nv cv1) := fun nq => ((HM.out.step nq.2).cells 2).1
              have q3 : ∀ nq : WB wr, nq.1.cell? ⟨g1 + 1, 2, none⟩ = some (.slice (some ⟨b2, o2, none⟩) nv cv2) := fun nq => ((HM.out.step nq.2).cells 2).2
              clear e1 e2 hx
              repeat' (first | go_values | go_skip | go_guarded | go_step | go_upon)
              refine wp_region_wb (by kernel_rfl) (by kernel_rfl) wr (Below.refl _ _) ?_
              repeat (go_big_quiet_step ((fail)))
              refine wpQuiet_nil ?_
              rintro _ ⟨nq, rfl⟩
              have hnq := nq.2
              have HN := Lib.hid (HM.out.step hnq)
              clear q0 q1 q2 q3 hnq
              repeat' (first | go_values | go_skip | go_guarded | go_step | go_upon)
              go_roundw
              case rel => exact ⟨k + 1, by go_num, hlt, HN⟩
              case measure => simp [intOf]; omega
            · obtain rfl : nv = k := by omega
              repeat' (first | go_values | go_skip | go_guarded | go_step | go_upon)
              go_ret
              exact ⟨rfl, HM.out.bel⟩
end Go.Proofs.Ytbomloodllddaaa
