/- Walks: a key's place in a hash, whether a hash may be. Conditions: the hash lies in memory. -/
import Derived.Test.YtkpdcejnanhgoaaHashMix
namespace Go.Proofs.Ytkpdcejnanhgoaa
open Go.RowKit
def u32C (n : Nat) : List Value := [.int .u32 n]
def u64C (n : Nat) : List Value := [.int .u64 n]
/-- a hash as it lies in memory -/
structure HashAt (w : World) (vs vk vv : Value) (h : HashP) : Prop where
  seeds : RowOf u32C 1 w vs h.seeds
  keys : RowOf u64C 1 w vk h.keys
  vals : RowOf u64C 1 w vv h.vals
  sb : ∀ k, h.seeds.getD k 0 < 4294967296
  kb : ∀ k, U64 (h.keys.getD k 0)
  vb : ∀ k, U64 (h.vals.getD k 0)
theorem HashAt.keep {w w' : World} {vs vk vv : Value} {h : HashP} (H : HashAt w vs vk vv h) (hb : Below w.heap.size w w') : HashAt w' vs vk vv h :=
  ⟨H.seeds.keep hb, H.keys.keep hb, H.vals.keep hb, H.sb, H.kb, H.vb⟩
/-- a variable of the call's own that holds a hash -/
def HBox (w : World) (g : Nat) (a b c : Value) : Prop := w.heap[g]? = some (.cells #[a, b, c] 43 (0, 0))
theorem HBox.lt {w : World} {g : Nat} {a b c : Value} (h : HBox w g a b c) : g < w.heap.size := (Array.getElem?_eq_some_iff.1 h).1
theorem HBox.keep {w w' : World} {g : Nat} {a b c : Value} (h : HBox w g a b c) (hb : Below w.heap.size w w') : HBox w' g a b c := by
  unfold HBox; rw [hb.block g h.lt]; exact h
theorem HBox.c0 {w : World} {g : Nat} {a b c : Value} (h : HBox w g a b c) : w.cell? ⟨g, 0, none⟩ = some a := by rw [cell_of_row w g 0 _ _ _ h]; rfl
theorem HBox.c1 {w : World} {g : Nat} {a b c : Value} (h : HBox w g a b c) : w.cell? ⟨g, 1, none⟩ = some b := by rw [cell_of_row w g 1 _ _ _ h]; rfl
theorem HBox.c2 {w : World} {g : Nat} {a b c : Value} (h : HBox w g a b c) : w.cell? ⟨g, 2, none⟩ = some c := by rw [cell_of_row w g 2 _ _ _ h]; rfl
theorem HBox.new (w : World) (a b c : Value) : HBox (w.alloc (.cells #[a, b, c] 43)) w.heap.size a b c := Go.heap_alloc_new _ _
theorem row1 {α : Type} {f : α → List Value} {d : α} {w : World} {b off : Nat} {l : List α} (h : ∀ (i : Nat) (x : α) (j : Nat), l[i]? = some x → j < 1 → w.cell? ⟨b, off + (i * 1 + j), none⟩ = (f x)[j]?) (k : Nat) (hk : k < l.length) : w.cell? ⟨b, off + k, none⟩ = (f (l.getD k d))[0]? := by
  have hx : l[k]? = some (l.getD k d) := by rw [List.getD_eq_getElem?_getD, List.getElem?_eq_getElem hk]; rfl
  have := h k _ 0 hx (by decide)
  simpa using this
set_option maxRecDepth 100000 in
set_option maxHeartbeats 1000000 in
theorem hash_place (vs vk vv : Value) (h : HashP) (k : Nat) (hk : U64 k) (w : World) (H : HashAt w vs vk vv h) (hn : h.keys.length ≠ 0) (hn4 : h.keys.length ≤ 4096) :
    Calls Try.prog 72 #[.agg #[vs, vk, vv], .int .u64 k] w fun e w' => e = .returned (.int .i64 (placeI h k)) ∧ Below w.heap.size w w' := by
  obtain ⟨asd, caps, rfl, hcs, hms, hcells⟩ := H.seeds.open (sz := 1) (f := u32C) (fun _ => rfl)
  obtain ⟨ak, capk, rfl, hck, hmk, hcellk⟩ := H.keys.open (sz := 1) (f := u64C) (fun _ => rfl)
  have Hsb := Lib.hid H.sb
  obtain ⟨n, hn'⟩ : ∃ n, n = h.keys.length := ⟨_, rfl⟩
  obtain ⟨m, hm'⟩ : ∃ m, m = h.seeds.length := ⟨_, rfl⟩
  have hP0 : m = 0 → placeI h k = (bsI h.keys k n 0 n : Nat) := fun h0 => by rw [hm'] at h0; rw [placeI, if_pos h0, hn']
  have hP1 : m ≠ 0 → placeI h k = mixI (h.seeds.getD (mixI 0 k % (m : Int)).toNat 0 : Nat) k % (n : Int) := fun h0 => by rw [hm'] at h0; rw [placeI, if_neg h0, hn', hm']
  rw [← hn'] at hck hcellk hn hn4 ⊢
  rw [← hm'] at hcs hcells ⊢
  have Hn := Lib.hid hn'; have Hm := Lib.hid hm'
  have Hkb := Lib.hid H.kb
  have hk' := hk
  unfold U64 at hk'
  clear hn' hm' H
  unfold maxLen at hms hmk
  rcases hcellk with hk0 | ⟨b, off, rfl, hb, hcellk⟩
  · exact absurd hk0 hn
  have Hcellk := Lib.hid hcellk
  have HB0 : Hid (HBox (w.alloc (.cells #[.slice asd m caps, .slice (some ⟨b, off, none⟩) n capk, vv] 43)) w.heap.size (.slice asd m caps) (.slice (some ⟨b, off, none⟩) n capk) vv) := Lib.hid (HBox.new _ _ _ _)
  have Hb0 : Hid (Below w.heap.size w (w.alloc (.cells #[.slice asd m caps, .slice (some ⟨b, off, none⟩) n capk, vv] 43))) := Lib.hid ((Below.refl _ _).alloc (Nat.le_refl _) _)
  clear hcellk
  by_cases h0 : m = 0
  · rw [hP0 h0]
    subst h0
    clear hP0 hP1 hcells Hsb
    go_enter Try.func72, Try.ntmps72
    repeat' (first | go_values | go_skip | go_guarded | go_step | go_upon)
    obtain ⟨wb, hwb⟩ : ∃ wb, wb = w.alloc (.cells #[.slice asd 0 caps, .slice (some ⟨b, off, none⟩) n capk, vv] 43) := ⟨_, rfl⟩
    have HB1 : Hid (HBox wb w.heap.size (.slice asd 0 caps) (.slice (some ⟨b, off, none⟩) n capk) vv) := Lib.hid (by rw [hwb]; exact HB0.out)
    have Hb1 : Hid (Below w.heap.size w wb) := Lib.hid (by rw [hwb]; exact Hb0.out)
    rw [← hwb]
    clear hwb HB0 Hb0
    have q0 : ∀ nq : WB wb, nq.1.cell? ⟨w.heap.size, 1, none⟩ = some (.slice (some ⟨b, off, none⟩) n capk) := fun nq => (HB1.out.keep nq.2).c1
    refine wp_region_wb (by kernel_rfl) (by kernel_rfl) wb (Below.refl _ _) ?_
    repeat (go_big_quiet_step ((fail)))
    refine wpQuiet_nil ?_
    rintro _ ⟨nq, rfl⟩
    have hnq := nq.2
    clear q0
    have HB2 := Lib.hid (HB1.out.keep hnq)
    have Hb2 := Lib.hid (Hb1.out.trans (hnq.mono Hb1.out.size))
    clear HB1 Hb1 hnq
    repeat' (first | go_values | go_skip | go_guarded | go_step | go_upon)
    go_loopw [5, 6] (fun s5 s6 wr => ∃ lo hi : Nat, s5 = .int .i64 lo ∧ s6 = .int .i64 hi ∧ lo ≤ hi ∧ hi ≤ n ∧ Hid (bsI h.keys k n 0 n = bsI h.keys k (hi - lo) lo hi) ∧ Hid (HBox wr w.heap.size (.slice asd 0 caps) (.slice (some ⟨b, off, none⟩) n capk) vv) ∧ Hid (Below w.heap.size w wr)) (fun s5 s6 _ => (intOf s6).toNat - (intOf s5).toNat)
    case atStart => exact ⟨0, n, rfl, rfl, Nat.zero_le _, Nat.le_refl _, Lib.hid rfl, HB2, Hb2⟩
    case round =>
      clear HB2 Hb2
      obtain ⟨lo, hi, rfl, rfl, h1, h2, He, HB, Hb⟩ := hrel
      by_cases hlt : lo < hi
      · obtain ⟨md, hmd⟩ : ∃ md, md = (lo + hi) / 2 := ⟨_, rfl⟩
        have hm1 : ((lo : Int) + hi).tdiv 2 = md := by rw [hmd, Int.tdiv_eq_ediv_of_nonneg (by omega)]; omega
        have hm2 : md < hi := by omega
        have hm3 : lo ≤ md := by omega
        have c1 := HB.out.c1
        have ck := row1 (d := 0) Hcellk.out md (by rw [← Hn.out]; omega)
        rw [← Hb.out.cell (show b < w.heap.size from hb)] at ck
        have Hs : Hid (∀ x, x = h.keys.getD md 0 → (x < k → bsI h.keys k n 0 n = bsI h.keys k (hi - (md + 1)) (md + 1) hi) ∧ (¬ x < k → bsI h.keys k n 0 n = bsI h.keys k (md - lo) lo md)) := Lib.hid fun x hx => by
          have e : hi - lo = (hi - lo - 1) + 1 := by omega
          rw [He.out, e, bsI, if_pos hlt, ← hmd, ← hx]
          refine ⟨fun hc => ?_, fun hc => ?_⟩
          · rw [if_pos hc]; exact bsI_fuel _ _ _ _ _ _ (by omega) (by omega)
          · rw [if_neg hc]; exact bsI_fuel _ _ _ _ _ _ (by omega) (by omega)
        obtain ⟨x, hx⟩ : ∃ x, x = h.keys.getD md 0 := ⟨_, rfl⟩
        rw [← hx] at ck
        have Hs2 := Lib.hid (Hs.out x hx)
        simp only [u64C, List.getElem?_cons_zero] at ck
        clear hmd He Hs hx
        by_cases hc : x < k
        · repeat' (first | go_values | go_skip | go_guarded | go_step | go_upon)
          go_roundw
          case rel => exact ⟨md + 1, hi, by go_num, rfl, by omega, h2, Lib.hid (Hs2.out.1 hc), HB, Hb⟩
          case measure => simp [intOf]; omega
        · repeat' (first | go_values | go_skip | go_guarded | go_step | go_upon)
          go_roundw
          case rel => exact ⟨lo, md, rfl, rfl, by omega, by omega, Lib.hid (Hs2.out.2 hc), HB, Hb⟩
          case measure => simp [intOf]; omega
      · have e := He.out
        rw [bsI_stop _ _ _ _ _ hlt] at e
        have hh : hi = lo := by omega
        subst hh
        have E := Lib.hid e
        clear e He
        repeat' (first | go_values | go_skip | go_guarded | go_step | go_upon)
        go_ret
        exact ⟨by rw [E.out]; rfl, Hb.out⟩
  · have HM0 := Lib.hid fun w => hash_Mix 0 k (by decide) w
    have hmi := mixI_in 0 k
    have hP2 := hP1 h0
    rw [show ((0 : Nat) : Int) = 0 from rfl] at HM0
    generalize mixI 0 k = x0 at HM0 hmi hP2
    obtain ⟨i, hi⟩ : ∃ i : Nat, (i : Int) = x0 % (m : Int) := ⟨(x0 % (m : Int)).toNat, by have := Int.emod_nonneg x0 (b := (m : Int)) (by omega); omega⟩
    have him : i < m := by have := Int.emod_lt_of_pos x0 (b := (m : Int)) (by omega); omega
    have hit : (x0 % (m : Int)).toNat = i := by omega
    rw [hit] at hP2
    rcases hcells with hk0 | ⟨bs, offs, rfl, hbs, hcells⟩
    · exact absurd hk0 h0
    have cs := row1 (d := 0) hcells i (by rw [← Hm.out]; exact him)
    have hsb := Hsb.out i
    generalize h.seeds.getD i 0 = sd at cs hsb hP2
    simp only [u32C, List.getElem?_cons_zero] at cs
    have HM1 := Lib.hid fun w => hash_Mix sd k hsb w
    have hmi2 := mixI_in sd k
    generalize mixI sd k = x1 at HM1 hmi2 hP2
    rw [hP2]
    have hm0 : (m : Int) ≠ 0 := by omega
    have hn0 : (n : Int) ≠ 0 := by omega
    have ht0 : x0.tmod (m : Int) = i := by rw [Int.tmod_eq_emod_of_nonneg hmi.1]; exact hi.symm
    have ht1 : x1.tmod (n : Int) = x1 % (n : Int) := Int.tmod_eq_emod_of_nonneg hmi2.1
    have hr0 : 0 ≤ x1 % (n : Int) := Int.emod_nonneg _ hn0
    have hr1 : x1 % (n : Int) < n := Int.emod_lt_of_pos _ (by omega)
    obtain ⟨r, hr⟩ : ∃ r, r = x1 % (n : Int) := ⟨_, rfl⟩
    rw [← hr] at ht1 hr0 hr1 ⊢
    clear hP0 hP1 hP2 hcells Hsb hit hi hr Hkb Hcellk Hn Hm
    go_enter Try.func72, Try.ntmps72
    repeat' (first | go_values | go_skip | go_guarded | go_step | go_upon)
    obtain ⟨wb, hwb⟩ : ∃ wb, wb = w.alloc (.cells #[.slice (some ⟨bs, offs, none⟩) m caps, .slice (some ⟨b, off, none⟩) n capk, vv] 43) := ⟨_, rfl⟩
    have HB1 : Hid (HBox wb w.heap.size (.slice (some ⟨bs, offs, none⟩) m caps) (.slice (some ⟨b, off, none⟩) n capk) vv) := Lib.hid (by rw [hwb]; exact HB0.out)
    have Hb1 : Hid (Below w.heap.size w wb) := Lib.hid (by rw [hwb]; exact Hb0.out)
    rw [← hwb]
    clear hwb HB0 Hb0
    rw [← Hb1.out.cell (show bs < w.heap.size from hbs)] at cs
    have hbs2 : bs < wb.heap.size := Nat.lt_of_lt_of_le hbs Hb1.out.size
    have q0 : ∀ nq : WB wb, nq.1.cell? ⟨w.heap.size, 0, none⟩ = some (.slice (some ⟨bs, offs, none⟩) m caps) := fun nq => (HB1.out.keep nq.2).c0
    have q1 : ∀ nq : WB wb, nq.1.cell? ⟨w.heap.size, 1, none⟩ = some (.slice (some ⟨b, off, none⟩) n capk) := fun nq => (HB1.out.keep nq.2).c1
    have q2 : ∀ nq : WB wb, nq.1.cell? ⟨bs, offs + i, none⟩ = some (.int .u32 sd) := fun nq => by rw [nq.cell hbs2]; exact cs
    clear cs
    refine wp_region_wb (by kernel_rfl) (by kernel_rfl) wb (Below.refl _ _) ?_
    repeat (go_big_quiet_step (((go_at_call 76; exact calls_wb_same (HM0.out _)))))
    refine wpQuiet_nil ?_
    rintro _ ⟨nq, rfl⟩
    have hnq := nq.2
    clear HM0
    repeat' (first | go_values | go_skip | go_guarded | go_step | go_upon)
    refine wp_region_wb (by kernel_rfl) (by kernel_rfl) wb hnq ?_
    repeat (go_big_quiet_step (((go_at_call 76; exact calls_wb_same (HM1.out _)))))
    refine wpQuiet_nil ?_
    rintro _ ⟨nq, rfl⟩
    have hnq := nq.2
    repeat' (first | go_values | go_skip | go_guarded | go_step | go_upon)
    go_ret
    exact ⟨rfl, Hb1.out.trans (hnq.mono Hb1.out.size)⟩
end Go.Proofs.Ytkpdcejnanhgoaa
