/- Walks: a number made of a seed and a key, by the program and by the reference. No conditions beyond the types'. -/
import Derived.Test.YtkpdcejnanhgoaaPk05
import Derived.Test.YtkpdcejnanhgoaaPk03
import Derived.Test.YtkpdcejnanhgoaaProg
import Derived.Test.YtkpdcejnanhgoaaPk04
namespace Go.Proofs.Ytkpdcejnanhgoaa
open Go.RowKit
set_option maxRecDepth 100000 in
set_option maxHeartbeats 400000 in
theorem hash_Mix (seed key : Nat) (hs : seed < 4294967296) (w : World) : Calls Try.prog 76 #[.int .u32 seed, .int .u64 key] w fun e w' => e = .returned (.int .u64 (mixI seed key)) ∧ w = w' := by
  go_enter Try.func76, Try.ntmps76
  repeat' (first | go_values | go_skip | go_guarded | go_step | go_upon)
  go_ret
  exact ⟨rfl, rfl⟩
end Go.Proofs.Ytkpdcejnanhgoaa
/- Walks: a key's place in a hash, whether a hash may be. Conditions: the hash lies in memory. -/
namespace Go.Proofs.Ytkpdcejnanhgoaa
open Go.RowKit
def u32C (n : Nat) : List Value := [.int .u32 n]
def u64C (n : Nat) : List Value := [.int .u64 n]
/-- a hash as it lies in memory -/
structure HashAt (w : World) (vs vk vv : Value) (h : HashP) : Prop where
  seeds : RowOf u32C 1 w vs h.seeds
  keys : RowOf u64C 1 w vk h.keys
  vals : RowOf u64C 1 w vv h.vals
  sb : ∀ k, h.seeds.getD k 0 < 4294967296
  kb : ∀ k, U64 (h.keys.getD k 0)
  vb : ∀ k, U64 (h.vals.getD k 0)
theorem HashAt.keep {w w' : World} {vs vk vv : Value} {h : HashP} (H : HashAt w vs vk vv h) (hb : Below w.heap.size w w') : HashAt w' vs vk vv h :=
  ⟨H.seeds.keep hb, H.keys.keep hb, H.vals.keep hb, H.sb, H.kb, H.vb⟩
/-- a variable of the call's own that holds a hash -/
def HBox (w : World) (g : Nat) (a b c : Value) : Prop := w.heap[g]? = some (.cells #[a, b, c] 43 (0, 0))
theorem HBox.lt {w : World} {g : Nat} {a b c : Value} (h : HBox w g a b c) : g < w.heap.size := (Array.getElem?_eq_some_iff.1 h).1
theorem HBox.keep {w w' : World} {g : Nat} {a b c : Value} (h : HBox w g a b c) (hb : Below w.heap.size w w') : HBox w' g a b c := by
  unfold HBox; rw [hb.block g h.lt]; exact h
theorem HBox.c0 {w : World} {g : Nat} {a b c : Value} (h : HBox w g a b c) : w.cell? ⟨g, 0, none⟩ = some a := by rw [cell_of_row w g 0 _ _ _ h]; rfl
theorem HBox.c1 {w : World} {g : Nat} {a b c : Value} (h : HBox w g a b c) : w.cell? ⟨g, 1, none⟩ = some b := by rw [cell_of_row w g 1 _ _ _ h]; rfl
theorem HBox.c2 {w : World} {g : Nat} {a b c : Value} (h : HBox w g a b c) : w.cell? ⟨g, 2, none⟩ = some c := by rw [cell_of_row w g 2 _ _ _ h]; rfl
theorem HBox.new (w : World) (a b c : Value) : HBox (w.alloc (.cells #[a, b, c] 43)) w.heap.size a b c := Go.heap_alloc_new _ _
theorem row1 {α : Type} {f : α → List Value} {d : α} {w : World} {b off : Nat} {l : List α} (h : ∀ (i : Nat) (x : α) (j : Nat), l[i]? = some x → j < 1 → w.cell? ⟨b, off + (i * 1 + j), none⟩ = (f x)[j]?) (k : Nat) (hk : k < l.length) : w.cell? ⟨b, off + k, none⟩ = (f (l.getD k d))[0]? := by
  have hx : l[k]? = some (l.getD k d) := by rw [List.getD_eq_getElem?_getD, List.getElem?_eq_getElem hk]; rfl
  have := h k _ 0 hx (by decide)
  simpa using this
set_option maxRecDepth 100000 in
set_option maxHeartbeats 1000000 in
theorem hash_place (vs vk vv : Value) (h : HashP) (k : Nat) (hk : U64 k) (w : World) (H : HashAt w vs vk vv h) (hn : h.keys.length ≠ 0) (hn4 : h.keys.length ≤ 4096) :
    Calls Try.prog 72 #[.agg #[vs, vk, vv], .int .u64 k] w fun e w' => e = .returned (.int .i64 (placeI h k)) ∧ Below w.heap.size w w' := by
  obtain ⟨asd, caps, rfl, hcs, hms, hcells⟩ := H.seeds.open (sz := 1) (f := u32C) (fun _ => rfl)
  obtain ⟨ak, capk, rfl, hck, hmk, hcellk⟩ := H.keys.open (sz := 1) (f := u64C) (fun _ => rfl)
  have Hsb := Lib.hid H.sb
  obtain ⟨n, hn'⟩ : ∃ n, n = h.keys.length := ⟨_, rfl⟩
  obtain ⟨m, hm'⟩ : ∃ m, m = h.seeds.length := ⟨_, rfl⟩
  have hP0 : m = 0 → placeI h k = (bsI h.keys k n 0 n : Nat) := fun h0 => by rw [hm'] at h0; rw [placeI, if_pos h0, hn']
  have hP1 : m ≠ 0 → placeI h k = mixI (h.seeds.getD (mixI 0 k % (m : Int)).toNat 0 : Nat) k % (n : Int) := fun h0 => by rw [hm'] at h0; rw [placeI, if_neg h0, hn', hm']
  rw [← hn'] at hck hcellk hn hn4 ⊢
  rw [← hm'] at hcs hcells ⊢
  have Hn := Lib.hid hn'; have Hm := Lib.hid hm'
  have Hkb := Lib.hid H.kb
  have hk' := hk
  unfold U64 at hk'
  clear hn' hm' H
  unfold maxLen at hms hmk
  rcases hcellk with hk0 | ⟨b, off, rfl, hb, hcellk⟩
  · exact absurd hk0 hn
  have Hcellk := Lib.hid hcellk
  have HB0 : Hid (HBox (w.alloc (.cells #[.slice asd m caps, .slice (some ⟨b, off, none⟩) n capk, vv] 43)) w.heap.size (.slice asd m caps) (.slice (some ⟨b, off, none⟩) n capk) vv) := Lib.hid (HBox.new _ _ _ _)
  have Hb0 : Hid (Below w.heap.size w (w.alloc (.cells #[.slice asd m caps, .slice (some ⟨b, off, none⟩) n capk, vv] 43))) := Lib.hid ((Below.refl _ _).alloc (Nat.le_refl _) _)
  clear hcellk
  by_cases h0 : m = 0
  · rw [hP0 h0]
    subst h0
    clear hP0 hP1 hcells Hsb
    go_enter Try.func72, Try.ntmps72
    repeat' (first | go_values | go_skip | go_guarded | go_step | go_upon)
    obtain ⟨wb, hwb⟩ : ∃ wb, wb = w.alloc (.cells #[.slice asd 0 caps, .slice (some ⟨b, off, none⟩) n capk, vv] 43) := ⟨_, rfl⟩
    have HB1 : Hid (HBox wb w.heap.size (.slice asd 0 caps) (.slice (some ⟨b, off, none⟩) n capk) vv) := Lib.hid (by rw [hwb]; exact HB0.out)
    have Hb1 : Hid (Below w.heap.size w wb) := Lib.hid (by rw [hwb]; exact Hb0.out)
    rw [← hwb]
    clear hwb HB0 Hb0
    have q0 : ∀ nq : WB wb, nq.1.cell? ⟨w.heap.size, 1, none⟩ = some (.slice (some ⟨b, off, none⟩) n capk) := fun nq => (HB1.out.keep nq.2).c1
    refine wp_region_wb (by kernel_rfl) (by kernel_rfl) wb (Below.refl _ _) ?_
    repeat (go_big_quiet_step ((fail)))
    refine wpQuiet_nil ?_
    rintro _ ⟨nq, rfl⟩
    have hnq := nq.2
    clear q0
    have HB2 := Lib.hid (HB1.out.keep hnq)
    have Hb2 := Lib.hid (Hb1.out.trans (hnq.mono Hb1.out.size))
    clear HB1 Hb1 hnq
    repeat' (first | go_values | go_skip | go_guarded | go_step | go_upon)
    go_loopw [5, 6] (fun s5 s6 wr => ∃ lo hi : Nat, s5 = .int .i64 lo ∧ s6 = .int .i64 hi ∧ lo ≤ hi ∧ hi ≤ n ∧ Hid (bsI h.keys k n 0 n = bsI h.keys k (hi - lo) lo hi) ∧ Hid (HBox wr w.heap.size (.slice asd 0 caps) (.slice (some ⟨b, off, none⟩) n capk) vv) ∧ Hid (Below w.heap.size w wr)) (fun s5 s6 _ => (intOf s6).toNat - (intOf s5).toNat)
    case atStart => exact ⟨0, n, rfl, rfl, Nat.zero_le _, Nat.le_refl _, Lib.hid rfl, HB2, Hb2⟩
    case round =>
      clear HB2 Hb2
      obtain ⟨lo, hi, rfl, rfl, h1, h2, He, HB, Hb⟩ := hrel
      by_cases hlt : lo < hi
      · obtain ⟨md, hmd⟩ : ∃ md, md = (lo + hi) / 2 := ⟨_, rfl⟩
        have hm1 : ((lo : Int) + hi).tdiv 2 = md := by rw [hmd, Int.tdiv_eq_ediv_of_nonneg (by omega)]; omega
        have hm2 : md < hi := by omega
        have hm3 : lo ≤ md := by omega
        have c1 := HB.out.c1
        have ck := row1 (d := 0) Hcellk.out md (by rw [← Hn.out]; omega)
        rw [← Hb.out.cell (show b < w.heap.size from hb)] at ck
        have Hs : Hid (∀ x, x = h.keys.getD md 0 → (x < k → bsI h.keys k n 0 n = bsI h.keys k (hi - (md + 1)) (md + 1) hi) ∧ (¬ x < k → bsI h.keys k n 0 n = bsI h.keys k (md - lo) lo md)) := Lib.hid fun x hx => by
          have e : hi - lo = (hi - lo - 1) + 1 := by omega
          rw [He.out, e, bsI, if_pos hlt, ← hmd, ← hx]
          refine ⟨fun hc => ?_, fun hc => ?_⟩
          · rw [if_pos hc]; exact bsI_fuel _ _ _ _ _ _ (by omega) (by omega)
          · rw [if_neg hc]; exact bsI_fuel _ _ _ _ _ _ (by omega) (by omega)
        obtain ⟨x, hx⟩ : ∃ x, x = h.keys.getD md 0 := ⟨_, rfl⟩
        rw [← hx] at ck
        have Hs2 := Lib.hid (Hs.out x hx)
        simp only [u64C, List.getElem?_cons_zero] at ck
        clear hmd He Hs hx
        by_cases hc : x < k
        · repeat' (first | go_values | go_skip | go_guarded | go_step | go_upon)
          go_roundw
          case rel => exact ⟨md + 1, hi, by go_num, rfl, by omega, h2, Lib.hid (Hs2.out.1 hc), HB, Hb⟩
          case measure => simp [intOf]; omega
        · repeat' (first | go_values | go_skip | go_guarded | go_step | go_upon)
          go_roundw
          case rel => exact ⟨lo, md, rfl, rfl, by omega, by omega, Lib.hid (Hs2.out.2 hc), HB, Hb⟩
          case measure => simp [intOf]; omega
      · have e := He.out
        rw [bsI_stop _ _ _ _ _ hlt] at e
        have hh : hi = lo := by omega
        subst hh
        have E := Lib.hid e
        clear e He
        repeat' (first | go_values | go_skip | go_guarded | go_step | go_upon)
        go_ret
        exact ⟨by rw [E.out]; rfl, Hb.out⟩
  · have HM0 := Lib.hid fun w => hash_Mix 0 k (by decide) w
    have hmi := mixI_in 0 k
    have hP2 := hP1 h0
    rw [show ((0 : Nat) : Int) = 0 from rfl] at HM0
    generalize mixI 0 k = x0 at HM0 hmi hP2
    obtain ⟨i, hi⟩ : ∃ i : Nat, (i : Int) = x0 % (m : Int) := ⟨(x0 % (m : Int)).toNat, by have := Int.emod_nonneg x0 (b := (m : Int)) (by omega); omega⟩
    have him : i < m := by have := Int.emod_lt_of_pos x0 (b := (m : Int)) (by omega); omega
    have hit : (x0 % (m : Int)).toNat = i := by omega
    rw [hit] at hP2
    rcases hcells with hk0 | ⟨bs, offs, rfl, hbs, hcells⟩
    · exact absurd hk0 h0
    have cs := row1 (d := 0) hcells i (by rw [← Hm.out]; exact him)
    have hsb := Hsb.out i
    generalize h.seeds.getD i 0 = sd at cs hsb hP2
    simp only [u32C, List.getElem?_cons_zero] at cs
    have HM1 := Lib.hid fun w => hash_Mix sd k hsb w
    have hmi2 := mixI_in sd k
    generalize mixI sd k = x1 at HM1 hmi2 hP2
    rw [hP2]
    have hm0 : (m : Int) ≠ 0 := by omega
    have hn0 : (n : Int) ≠ 0 := by omega
    have ht0 : x0.tmod (m : Int) = i := by rw [Int.tmod_eq_emod_of_nonneg hmi.1]; exact hi.symm
    have ht1 : x1.tmod (n : Int) = x1 % (n : Int) := Int.tmod_eq_emod_of_nonneg hmi2.1
    have hr0 : 0 ≤ x1 % (n : Int) := Int.emod_nonneg _ hn0
    have hr1 : x1 % (n : Int) < n := Int.emod_lt_of_pos _ (by omega)
    obtain ⟨r, hr⟩ : ∃ r, r = x1 % (n : Int) := ⟨_, rfl⟩
    rw [← hr] at ht1 hr0 hr1 ⊢
    clear hP0 hP1 hP2 hcells Hsb hit hi hr Hkb Hcellk Hn Hm
    go_enter Try.func72, Try.ntmps72
    repeat' (first | go_values | go_skip | go_guarded | go_step | go_upon)
    obtain ⟨wb, hwb⟩ : ∃ wb, wb = w.alloc (.cells #[.slice (some ⟨bs, offs, none⟩) m caps, .slice (some ⟨b, off, none⟩) n capk, vv] 43) := ⟨_, rfl⟩
    have HB1 : Hid (HBox wb w.heap.size (.slice (some ⟨bs, offs, none⟩) m caps) (.slice (some ⟨b, off, none⟩) n capk) vv) := Lib.hid (by rw [hwb]; exact HB0.out)
    have Hb1 : Hid (Below w.heap.size w wb) := Lib.hid (by rw [hwb]; exact Hb0.out)
    rw [← hwb]
    clear hwb HB0 Hb0
    rw [← Hb1.out.cell (show bs < w.heap.size from hbs)] at cs
    have hbs2 : bs < wb.heap.size := Nat.lt_of_lt_of_le hbs Hb1.out.size
    have q0 : ∀ nq : WB wb, nq.1.cell? ⟨w.heap.size, 0, none⟩ = some (.slice (some ⟨bs, offs, none⟩) m caps) := fun nq => (HB1.out.keep nq.2).c0
    have q1 : ∀ nq : WB wb, nq.1.cell? ⟨w.heap.size, 1, none⟩ = some (.slice (some ⟨b, off, none⟩) n capk) := fun nq => (HB1.out.keep nq.2).c1
    have q2 : ∀ nq : WB wb, nq.1.cell? ⟨bs, offs + i, none⟩ = some (.int .u32 sd) := fun nq => by rw [nq.cell hbs2]; exact cs
    clear cs
    refine wp_region_wb (by kernel_rfl) (by kernel_rfl) wb (Below.refl _ _) ?_
    repeat (go_big_quiet_step (((go_at_call 76; exact calls_wb_same (HM0.out _)))))
    refine wpQuiet_nil ?_
    rintro _ ⟨nq, rfl⟩
    have hnq := nq.2
    clear HM0
    repeat' (first | go_values | go_skip | go_guarded | go_step | go_upon)
    refine wp_region_wb (by kernel_rfl) (by kernel_rfl) wb hnq ?_
    repeat (go_big_quiet_step (((go_at_call 76; exact calls_wb_same (HM1.out _)))))
    refine wpQuiet_nil ?_
    rintro _ ⟨nq, rfl⟩
    have hnq := nq.2
    repeat' (first | go_values | go_skip | go_guarded | go_step | go_upon)
    go_ret
    exact ⟨rfl, Hb1.out.trans (hnq.mono Hb1.out.size)⟩
end Go.Proofs.Ytkpdcejnanhgoaa
/- Programs as they lie in memory (api.Program), and which data may be (P23.1). No conditions. -/
namespace Go.Proofs.Ytkpdcejnanhgoaa
open Go.RowKit
/-- a program -/
structure Prg where
  grow : Int
  rest : Int
  extra : Int
  signs : Int
  code : List (Nat → Int)
  tabs : List (Int × List Int)
  texts : List (List UInt8)
  hash : HashP
/-- its slices' values -/
structure PV where
  vc : Value
  vt : Value
  vx : Value
  vs : Value
  vk : Value
  vv : Value
abbrev pgC (p : Prg) (v : PV) : Array Value := #[.int .i64 p.grow, .int .i64 p.rest, .int .i64 p.extra, .int .i64 p.signs, v.vc, v.vt, v.vx, v.vs, v.vk, v.vv]
abbrev pgV (p : Prg) (v : PV) : Value := .agg (pgC p v)
def tbC (t : Int × Value) : List Value := [.int .i64 t.1, t.2]
def intC (n : Int) : List Value := [.int .i64 n]
def strC (l : List UInt8) : List Value := [.string ⟨l.toArray⟩]
/-- tables as they lie -/
def TabsAt (w : World) (v : Value) (l : List (Int × List Int)) : Prop :=
  ∃ ts : List (Int × Value), RowOf tbC 2 w v ts ∧ ts.length = l.length ∧ ∀ (i : Nat) t d, ts[i]? = some t → l[i]? = some d → t.1 = d.1 ∧ I64 d.1 ∧ RowOf intC 1 w t.2 d.2
theorem TabsAt.keep {w w' : World} {v : Value} {l : List (Int × List Int)} (h : TabsAt w v l) (hb : Below w.heap.size w w') : TabsAt w' v l := by
  obtain ⟨ts, h1, h2, h3⟩ := h
  exact ⟨ts, h1.keep hb, h2, fun i t d ht hd => by obtain ⟨a, b, c⟩ := h3 i t d ht hd; exact ⟨a, b, c.keep hb⟩⟩
/-- a program as it lies -/
structure PrgAt (w : World) (v : PV) (p : Prg) : Prop where
  num : I64 p.grow ∧ I64 p.rest ∧ I64 p.extra ∧ I64 p.signs
  code : RowOf icL 5 w v.vc p.code
  tabs : TabsAt w v.vt p.tabs
  texts : RowOf strC 1 w v.vx p.texts
  hash : HashAt w v.vs v.vk v.vv p.hash
  tl : ∀ l ∈ p.texts, l.length ≤ 140737488351232
theorem PrgAt.keep {w w' : World} {v : PV} {p : Prg} (h : PrgAt w v p) (hb : Below w.heap.size w w') : PrgAt w' v p :=
  ⟨h.num, h.code.keep hb, h.tabs.keep hb, h.texts.keep hb, h.hash.keep hb, h.tl⟩
/-- a variable that holds a program -/
def PBox (w : World) (g : Nat) (p : Prg) (v : PV) : Prop := w.heap[g]? = some (.cells (pgC p v) 45 (0, 0))
theorem PBox.lt {w : World} {g : Nat} {p : Prg} {v : PV} (h : PBox w g p v) : g < w.heap.size := (Array.getElem?_eq_some_iff.1 h).1
theorem PBox.keep {w w' : World} {g : Nat} {p : Prg} {v : PV} (h : PBox w g p v) (hb : Below w.heap.size w w') : PBox w' g p v := by
  unfold PBox; rw [hb.block g h.lt]; exact h
theorem PBox.new (w : World) (p : Prg) (v : PV) : PBox (w.alloc (.cells (pgC p v) 45)) w.heap.size p v := Go.heap_alloc_new _ _
theorem PBox.cell {w : World} {g : Nat} {p : Prg} {v : PV} (h : PBox w g p v) (k : Nat) : w.cell? ⟨g, k, none⟩ = (pgC p v)[k]? := cell_of_row w g k _ _ _ h
theorem PBox.ten {w : World} {g : Nat} {p : Prg} {v : PV} (h : PBox w g p v) : w.cell? ⟨g, 0, none⟩ = some (.int .i64 p.grow) ∧ w.cell? ⟨g, 1, none⟩ = some (.int .i64 p.rest) ∧ w.cell? ⟨g, 2, none⟩ = some (.int .i64 p.extra) ∧ w.cell? ⟨g, 3, none⟩ = some (.int .i64 p.signs) ∧
    w.cell? ⟨g, 4, none⟩ = some v.vc ∧ w.cell? ⟨g, 5, none⟩ = some v.vt ∧ w.cell? ⟨g, 6, none⟩ = some v.vx ∧ w.cell? ⟨g, 7, none⟩ = some v.vs ∧ w.cell? ⟨g, 8, none⟩ = some v.vk ∧ w.cell? ⟨g, 9, none⟩ = some v.vv :=
  ⟨h.cell 0, h.cell 1, h.cell 2, h.cell 3, h.cell 4, h.cell 5, h.cell 6, h.cell 7, h.cell 8, h.cell 9⟩
theorem info_pg : (Try.prog.info? 45).map (fun i => i.size) = some 10 := by kernel_rfl
theorem load_pg {o : Oper} {a : Act} {w : World} {K : Act → World → Prop} {Q : Exit → Act → World → Prop} {g : Nat} {p : Prg} {v : PV} (hs : PBox w g p v) (x : Operand) (ho : o.op = .load 45 x)
    (hx : a.eval x = .pointer (some ⟨g, 0, none⟩)) (h : K (a.put o.dst (pgV p v)) w) : o.wp Try.prog a w K Q :=
  wp_load_row _ x ho g hx 45 (pgC p v) (0, 0) _ hs Try.underlying45 rfl info_pg h
/-- a table in a variable -/
def TBox (w : World) (g : Nat) (c : Int) (v : Value) : Prop := w.heap[g]? = some (.cells #[.int .i64 c, v] 74 (0, 0))
theorem TBox.lt {w : World} {g : Nat} {c : Int} {v : Value} (h : TBox w g c v) : g < w.heap.size := (Array.getElem?_eq_some_iff.1 h).1
theorem TBox.keep {w w' : World} {g : Nat} {c : Int} {v : Value} (h : TBox w g c v) (hb : Below w.heap.size w w') : TBox w' g c v := by
  unfold TBox; rw [hb.block g h.lt]; exact h
theorem TBox.two {w : World} {g : Nat} {c : Int} {v : Value} (h : TBox w g c v) : w.cell? ⟨g, 0, none⟩ = some (.int .i64 c) ∧ w.cell? ⟨g, 1, none⟩ = some v :=
  ⟨cell_of_row w g 0 _ _ _ h, cell_of_row w g 1 _ _ _ h⟩
theorem TBox.new (w : World) (c : Int) (v : Value) : TBox (w.alloc (.cells #[.int .i64 c, v] 74)) w.heap.size c v := Go.heap_alloc_new _ _
/-- a table's two cells -/
theorem tab_cells {w : World} {b off : Nat} {ts : List (Int × Value)} (h : ∀ (i : Nat) (x : Int × Value) (j : Nat), ts[i]? = some x → j < 2 → w.cell? ⟨b, off + (i * 2 + j), none⟩ = (tbC x)[j]?) {i : Nat} {t : Int × Value} (hi : ts[i]? = some t) :
    w.cell? ⟨b, off + i * 2, none⟩ = some (.int .i64 t.1) ∧ w.cell? ⟨b, off + i * 2 + 1, none⟩ = some t.2 := ⟨h i t 0 hi (by decide), h i t 1 hi (by decide)⟩
theorem RowOf.slice {α : Type} {f : α → List Value} {sz : Nat} {w : World} {v : Value} {l : List α} (h : RowOf f sz w v l) : ∃ a cap, v = .slice a l.length cap ∧ l.length ≤ cap ∧ cap ≤ maxLen := by
  obtain ⟨a, cap, h1, h2, h3, _⟩ := h
  exact ⟨a, cap, h1, h2, h3⟩
/-- may data be? -/
def smallN (n : Int) : Bool := decide (0 ≤ n) && decide (n ≤ 1048576)
def numOk (n : Int) : Bool := decide (0 ≤ n) && decide (n ≤ 1073741824)
def tabOk (t : Int × List Int) : Bool := decide (1 ≤ t.1 ∧ t.1 ≤ 256 ∧ t.1 ≤ t.2.length ∧ t.2.length ≤ 400000 ∧ (t.2.length : Int) % t.1 = 0) && t.2.all numOk
def valOk (s : Int) (v : Nat) : Bool := decide (((v % 4294967296 : Nat) : Int) < s)
def linOk (p : Prg) : Prop := 0 ≤ p.signs ∧ p.signs ≤ 65536 ∧ p.tabs.length ≤ 16 ∧ p.texts.length ≤ 4096
instance (p : Prg) : Decidable (linOk p) := by unfold linOk; infer_instance
def dataOk (p : Prg) : Bool := smallN p.grow && (smallN p.rest && (smallN p.extra && (decide (linOk p) && (hokI p.hash && (p.tabs.all tabOk && (p.texts.all (fun l => decide (l.length ≤ 4096)) && p.hash.vals.all (valOk p.signs)))))))
theorem data_iff (p : Prg) : dataOk p = true ↔ smallN p.grow = true ∧ smallN p.rest = true ∧ smallN p.extra = true ∧ linOk p ∧ hokI p.hash = true ∧ p.tabs.all tabOk = true ∧ p.texts.all (fun l => decide (l.length ≤ 4096)) = true ∧ p.hash.vals.all (valOk p.signs) = true := by
  unfold dataOk
  simp only [Bool.and_eq_true, decide_eq_true_eq]
theorem any_not {α : Type} (d : α) (f : α → Bool) : ∀ l : List α, (List.range l.length).any (fun i => !f (l.getD i d)) = !l.all f := by
  intro l
  rw [Bool.eq_iff_iff]
  simp only [List.any_eq_true, List.mem_range, Bool.not_eq_true', List.all_eq_false]
  constructor
  · rintro ⟨i, hi, h⟩
    refine ⟨l.getD i d, ?_, by rw [h]; decide⟩
    rw [List.getD_eq_getElem?_getD, List.getElem?_eq_getElem hi]; exact List.getElem_mem hi
  · rintro ⟨x, hx, h⟩
    obtain ⟨i, hi, rfl⟩ := List.getElem_of_mem hx
    refine ⟨i, hi, ?_⟩
    rw [List.getD_eq_getElem?_getD, List.getElem?_eq_getElem hi]
    simpa using h
end Go.Proofs.Ytkpdcejnanhgoaa
/- Plain laws: which programs are whole (P23.1). No conditions; no program. -/
namespace Go.Proofs.Ytkpdcejnanhgoaa
open Go.RowKit
abbrev codeAt (p : Prg) (i : Nat) : Nat → Int := p.code.getD i (fun _ => 0)
def badOp (p : Prg) (i : Nat) : Bool := !okI (codeAt p i)
def badJump (p : Prg) (i : Nat) : Bool := decide ((p.code.length : Int) ≤ codeAt p i 3) || (decide (codeAt p i 0 = 8) && decide ((p.tabs.length : Int) ≤ codeAt p i 4))
def endOk (p : Prg) : Bool := decide (codeAt p (p.code.length - 1) 0 = 1) || decide (codeAt p (p.code.length - 1) 0 = 4)
/-- why a program is not whole, and where -/
def shapeI (p : Prg) : Int × Int :=
  if dataOk p = false then (232, -1) else if p.code.length < 1 ∨ 4096 < p.code.length then (210, -1)
  else match (List.range p.code.length).find? (badOp p) with
    | some i => (210, (i : Int))
    | none => match (List.range p.code.length).find? (badJump p) with
      | some i => (230, (i : Int))
      | none => if endOk p = false then (230, (p.code.length : Int) - 1) else (0, 0)
theorem fst_some {n k : Nat} {f : Nat → Bool} (hk : k < n) (h : f k = true) (hl : ∀ i, i < k → f i = false) : (List.range n).find? f = some k := by
  rw [List.find?_range_eq_some]
  exact ⟨h, List.mem_range.2 hk, fun j hj => by rw [hl j hj]; rfl⟩
theorem fst_none {n : Nat} {f : Nat → Bool} (hl : ∀ i, i < n → f i = false) : (List.range n).find? f = none := by
  rw [List.find?_range_eq_none]
  exact fun j hj => by rw [hl j hj]; rfl
theorem shape_data {p : Prg} (h : dataOk p = false) : shapeI p = (232, -1) := by unfold shapeI; rw [if_pos h]
theorem shape_len {p : Prg} (h : dataOk p = true) (hl : p.code.length < 1 ∨ 4096 < p.code.length) : shapeI p = (210, -1) := by
  unfold shapeI; rw [if_neg (by rw [h]; decide), if_pos hl]
theorem shape_op {p : Prg} (h : dataOk p = true) (hl : 1 ≤ p.code.length ∧ p.code.length ≤ 4096) {k : Nat} (hk : k < p.code.length) (hb : badOp p k = true) (ha : ∀ i, i < k → badOp p i = false) : shapeI p = (210, (k : Int)) := by
  unfold shapeI; rw [if_neg (by rw [h]; decide), if_neg (by omega), fst_some hk hb ha]
theorem shape_jump {p : Prg} (h : dataOk p = true) (hl : 1 ≤ p.code.length ∧ p.code.length ≤ 4096) (ho : ∀ i, i < p.code.length → badOp p i = false) {k : Nat} (hk : k < p.code.length) (hb : badJump p k = true) (ha : ∀ i, i < k → badJump p i = false) : shapeI p = (230, (k : Int)) := by
  unfold shapeI; rw [if_neg (by rw [h]; decide), if_neg (by omega), fst_none ho]; dsimp only; rw [fst_some hk hb ha]
theorem shape_end {p : Prg} (h : dataOk p = true) (hl : 1 ≤ p.code.length ∧ p.code.length ≤ 4096) (ho : ∀ i, i < p.code.length → badOp p i = false) (hj : ∀ i, i < p.code.length → badJump p i = false) : shapeI p = if endOk p = false then (230, (p.code.length : Int) - 1) else (0, 0) := by
  unfold shapeI; rw [if_neg (by rw [h]; decide), if_neg (by omega), fst_none ho]; dsimp only; rw [fst_none hj]
/-- what a whole program is -/
structure Whole (p : Prg) : Prop where
  data : dataOk p = true
  len : 1 ≤ p.code.length ∧ p.code.length ≤ 4096
  op : ∀ i, i < p.code.length → okI (codeAt p i) = true
  jump : ∀ i, i < p.code.length → badJump p i = false
  last : endOk p = true
theorem shape_whole {p : Prg} (h : (shapeI p).1 = 0) : Whole p ∧ shapeI p = (0, 0) := by
  by_cases h1 : dataOk p = true
  rotate_left
  · rw [shape_data (by simpa using h1)] at h; simp at h
  by_cases h2 : p.code.length < 1 ∨ 4096 < p.code.length
  · rw [shape_len h1 h2] at h; simp at h
  have h2' : 1 ≤ p.code.length ∧ p.code.length ≤ 4096 := by omega
  cases h3 : (List.range p.code.length).find? (badOp p) with
  | some i =>
    unfold shapeI at h
    rw [if_neg (by rw [h1]; decide), if_neg (by omega), h3] at h; simp at h
  | none =>
    have ho : ∀ i, i < p.code.length → badOp p i = false := fun i hi => by
      have := (List.find?_range_eq_none.1 h3) i hi
      simpa using this
    cases h4 : (List.range p.code.length).find? (badJump p) with
    | some i =>
      unfold shapeI at h
      rw [if_neg (by rw [h1]; decide), if_neg (by omega), h3] at h
      dsimp only at h
      rw [h4] at h; simp at h
    | none =>
      have hj : ∀ i, i < p.code.length → badJump p i = false := fun i hi => by
        have := (List.find?_range_eq_none.1 h4) i hi
        simpa using this
      have e := shape_end h1 h2' ho hj
      by_cases h5 : endOk p = false
      · rw [e, if_pos h5] at h; simp at h
      · rw [if_neg h5] at e
        refine ⟨⟨h1, h2', fun i hi => ?_, hj, by simpa using h5⟩, e⟩
        have := ho i hi
        unfold badOp at this; simpa using this
end Go.Proofs.Ytkpdcejnanhgoaa
/- Walks: is a range within bounds; the least and the greatest of a table's numbers. Conditions: the table lies in memory and is not empty. -/
namespace Go.Proofs.Ytkpdcejnanhgoaa
open Go.RowKit
def spC (s : Int × Int) : List Value := [.int .i64 s.1, .int .i64 s.2]
abbrev spV (s : Int × Int) : Value := .agg #[.int .i64 s.1, .int .i64 s.2]
theorem spC_len (s : Int × Int) : (spC s).length = 2 := rfl
def inB (s : Int × Int) (lo hi : Int) : Bool := decide (lo ≤ s.1) && decide (s.2 ≤ hi)
set_option maxRecDepth 100000 in
theorem ver_within (s : Int × Int) (lo hi : Int) (w : World) : Calls Try.prog 46 #[spV s, .int .i64 lo, .int .i64 hi] w fun e w' => e = .returned (.bool (inB s lo hi)) ∧ Below w.heap.size w w' := by
  obtain ⟨a, b⟩ := s
  unfold inB
  dsimp only
  by_cases h1 : lo ≤ a
  · by_cases h2 : b ≤ hi
    all_goals
      go_enter Try.func46, Try.ntmps46
      repeat' (first | go_values | go_skip | go_guarded | go_step | go_upon)
      go_ret
      exact ⟨by simp [*], (Below.refl _ _).alloc (Nat.le_refl _) _⟩
  · have h1' : a < lo := by omega
    clear h1
    go_enter Try.func46, Try.ntmps46
    repeat' (first | go_values | go_skip | go_guarded | go_step | go_upon)
    go_ret
    exact ⟨by simp [show ¬ lo ≤ a from by omega], (Below.refl _ _).alloc (Nat.le_refl _) _⟩
end Go.Proofs.Ytkpdcejnanhgoaa
/- Walks: the least and the greatest of a table's numbers. Conditions: the row lies in memory and is not empty. -/
namespace Go.Proofs.Ytkpdcejnanhgoaa
open Go.RowKit
/-- the least, the greatest of the first k -/
def mnTo (l : List Int) : Nat → Int
  | 0 => l.getD 0 0
  | k + 1 => min (mnTo l k) (l.getD k 0)
def mxTo (l : List Int) : Nat → Int
  | 0 => l.getD 0 0
  | k + 1 => max (mxTo l k) (l.getD k 0)
theorem mnTo_one (l : List Int) : mnTo l 1 = l.getD 0 0 := by simp [mnTo]
theorem mxTo_one (l : List Int) : mxTo l 1 = l.getD 0 0 := by simp [mxTo]
theorem mnTo_succ (l : List Int) (k : Nat) : mnTo l (k + 1) = min (mnTo l k) (l.getD k 0) := rfl
theorem mxTo_succ (l : List Int) (k : Nat) : mxTo l (k + 1) = max (mxTo l k) (l.getD k 0) := rfl
theorem min_if (m x : Int) : Value.int IntKind.i64 (if x < m then x else m) = .int .i64 (min m x) := by congr 1; split <;> omega
theorem max_if (m x : Int) : Value.int IntKind.i64 (if m < x then x else m) = .int .i64 (max m x) := by congr 1; split <;> omega
/-- a table's range -/
def spanD (d : List Int) : Int × Int := (mnTo d d.length, mxTo d d.length)
theorem intC_len (n : Int) : (intC n).length = 1 := rfl
theorem int_cell {w : World} {b off : Nat} {l : List Int} (h : ∀ (i : Nat) (x : Int) (j : Nat), l[i]? = some x → j < 1 → w.cell? ⟨b, off + (i * 1 + j), none⟩ = (intC x)[j]?) (k : Nat) (hk : k < l.length) : w.cell? ⟨b, off + k, none⟩ = some (.int .i64 (l.getD k 0)) := by
  have hx : l[k]? = some (l.getD k 0) := by rw [List.getD_eq_getElem?_getD, List.getElem?_eq_getElem hk]; rfl
  have := h k _ 0 hx (by decide)
  simpa [intC] using this
set_option maxRecDepth 100000 in
set_option maxHeartbeats 1000000 in
theorem slices_Min (v : Value) (l : List Int) (w : World) (h : RowOf intC 1 w v l) (h1 : 1 ≤ l.length) :
    Calls Try.prog 25 #[v] w fun e w' => e = .returned (.int .i64 (mnTo l l.length)) ∧ w = w' := by
  obtain ⟨a, cap, rfl, hcap, hmx, hcell⟩ := h.open intC_len
  obtain ⟨n, hn⟩ : ∃ n, n = l.length := ⟨_, rfl⟩
  rw [← hn] at hcap hcell h1 ⊢
  rcases hcell with h0 | ⟨b, off, rfl, hb, hcell⟩
  · omega
  have Hc : Hid (∀ k, k < n → w.cell? ⟨b, off + k, none⟩ = some (.int .i64 (l.getD k 0))) := Lib.hid fun k hk => int_cell hcell k (by rw [← hn]; exact hk)
  unfold maxLen at hmx
  have h1' : 1 ≤ (n : Int) := by omega
  have c0 := Hc.out 0 h1
  rw [Nat.add_zero] at c0
  obtain ⟨m0, hm0⟩ : ∃ m, m = l.getD 0 0 := ⟨_, rfl⟩
  rw [← hm0] at c0
  have Hm0 := Lib.hid hm0
  clear hcell h hn hm0
  go_enter Try.func25, Try.ntmps25
  repeat' (first | go_values | go_skip | go_guarded | go_step | go_upon)
  clear c0
  go_loopw [3, 4] (fun s3 s4 wr => ∃ (k : Nat) (m : Int), s3 = .int .i64 m ∧ s4 = .int .i64 k ∧ 1 ≤ k ∧ k ≤ n ∧ Hid (m = mnTo l k) ∧ w = wr) (fun _ s4 _ => n - (intOf s4).toNat)
  case atStart => exact ⟨1, _, rfl, by go_num, Nat.le_refl _, h1, Lib.hid (by rw [mnTo_one, Hm0.out]), rfl⟩
  case round =>
    obtain ⟨k, m, rfl, rfl, hk1, hk, Hm, rfl⟩ := hrel
    by_cases hlt : k < n
    · have ck := Hc.out k hlt
      have Hs : Hid (min m (l.getD k 0) = mnTo l (k + 1)) := Lib.hid (by rw [mnTo_succ, Hm.out])
      generalize l.getD k 0 = x at ck Hs
      repeat' (first | go_values | go_skip | go_guarded | go_step | go_upon)
      go_roundw
      case rel => exact ⟨k + 1, min m x, min_if m x, by go_num, by omega, hlt, Hs, trivial⟩
      case measure => simp [intOf]; omega
    · obtain rfl : n = k := by omega
      have e := Hm.out
      clear Hm Hc
      subst e
      repeat' (first | go_values | go_skip | go_guarded | go_step | go_upon)
      go_ret
      exact ⟨rfl, rfl⟩
set_option maxRecDepth 100000 in
set_option maxHeartbeats 1000000 in
theorem slices_Max (v : Value) (l : List Int) (w : World) (h : RowOf intC 1 w v l) (h1 : 1 ≤ l.length) :
    Calls Try.prog 26 #[v] w fun e w' => e = .returned (.int .i64 (mxTo l l.length)) ∧ w = w' := by
  obtain ⟨a, cap, rfl, hcap, hmx, hcell⟩ := h.open intC_len
  obtain ⟨n, hn⟩ : ∃ n, n = l.length := ⟨_, rfl⟩
  rw [← hn] at hcap hcell h1 ⊢
  rcases hcell with h0 | ⟨b, off, rfl, hb, hcell⟩
  · omega
  have Hc : Hid (∀ k, k < n → w.cell? ⟨b, off + k, none⟩ = some (.int .i64 (l.getD k 0))) := Lib.hid fun k hk => int_cell hcell k (by rw [← hn]; exact hk)
  unfold maxLen at hmx
  have h1' : 1 ≤ (n : Int) := by omega
  have c0 := Hc.out 0 h1
  rw [Nat.add_zero] at c0
  obtain ⟨m0, hm0⟩ : ∃ m, m = l.getD 0 0 := ⟨_, rfl⟩
  rw [← hm0] at c0
  have Hm0 := Lib.hid hm0
  clear hcell h hn hm0
  go_enter Try.func26, Try.ntmps26
  repeat' (first | go_values | go_skip | go_guarded | go_step | go_upon)
  clear c0
  go_loopw [3, 4] (fun s3 s4 wr => ∃ (k : Nat) (m : Int), s3 = .int .i64 m ∧ s4 = .int .i64 k ∧ 1 ≤ k ∧ k ≤ n ∧ Hid (m = mxTo l k) ∧ w = wr) (fun _ s4 _ => n - (intOf s4).toNat)
  case atStart => exact ⟨1, _, rfl, by go_num, Nat.le_refl _, h1, Lib.hid (by rw [mxTo_one, Hm0.out]), rfl⟩
  case round =>
    obtain ⟨k, m, rfl, rfl, hk1, hk, Hm, rfl⟩ := hrel
    by_cases hlt : k < n
    · have ck := Hc.out k hlt
      have Hs : Hid (max m (l.getD k 0) = mxTo l (k + 1)) := Lib.hid (by rw [mxTo_succ, Hm.out])
      generalize l.getD k 0 = x at ck Hs
      repeat' (first | go_values | go_skip | go_guarded | go_step | go_upon)
      go_roundw
      case rel => exact ⟨k + 1, max m x, max_if m x, by go_num, by omega, hlt, Hs, trivial⟩
      case measure => simp [intOf]; omega
    · obtain rfl : n = k := by omega
      have e := Hm.out
      clear Hm Hc
      subst e
      repeat' (first | go_values | go_skip | go_guarded | go_step | go_upon)
      go_ret
      exact ⟨rfl, rfl⟩
end Go.Proofs.Ytkpdcejnanhgoaa
/- Plain: which instructions do ranges show not to fault (P23.2). No conditions. -/
namespace Go.Proofs.Ytkpdcejnanhgoaa
open Go.RowKit
def tabD (p : Prg) (x : Nat → Int) : Int × List Int := p.tabs.getD (x 4).toNat (0, [])
def safeI (p : Prg) (x : Nat → Int) (r : Rg) : Bool :=
  if x 0 = 8 then inB (rget r (x 1).toNat) 0 (((tabD p x).2.length : Int) / (tabD p x).1 - 1) && inB (rget r (x 2).toNat) 0 ((tabD p x).1 - 1)
  else if x 0 = 12 then inB (rget r (x 1).toNat) 0 255
  else if x 0 = 13 then inB (rget r (x 1).toNat) 0 (2 * (p.texts.length : Int) - 1) && inB (rget r (x 2).toNat) 0 255
  else if x 0 = 15 then inB (rget r (x 1).toNat) 0 (p.signs - 1)
  else true
/-- what an instruction of a whole program is like -/
structure SOk (p : Prg) (x : Nat → Int) : Prop where
  a : 0 ≤ x 1 ∧ x 1 ≤ 7
  b : x 0 = 8 ∨ x 0 = 13 → 0 ≤ x 2 ∧ x 2 ≤ 7
  t : x 0 = 8 → 0 ≤ x 4 ∧ x 4 < (p.tabs.length : Int) ∧ 1 ≤ (tabD p x).1 ∧ (tabD p x).1 ≤ 256 ∧ (tabD p x).2.length ≤ 400000
  n : p.texts.length ≤ 4096
  s : 0 ≤ p.signs ∧ p.signs ≤ 65536
theorem safe_8 {p : Prg} {x : Nat → Int} {r : Rg} (h : x 0 = 8) : safeI p x r = (inB (rget r (x 1).toNat) 0 (((tabD p x).2.length : Int) / (tabD p x).1 - 1) && inB (rget r (x 2).toNat) 0 ((tabD p x).1 - 1)) := by unfold safeI; rw [if_pos h]
theorem safe_12 {p : Prg} {x : Nat → Int} {r : Rg} (h : x 0 = 12) : safeI p x r = inB (rget r (x 1).toNat) 0 255 := by unfold safeI; rw [if_neg (by omega), if_pos h]
theorem safe_13 {p : Prg} {x : Nat → Int} {r : Rg} (h : x 0 = 13) : safeI p x r = (inB (rget r (x 1).toNat) 0 (2 * (p.texts.length : Int) - 1) && inB (rget r (x 2).toNat) 0 255) := by unfold safeI; rw [if_neg (by omega), if_neg (by omega), if_pos h]
theorem safe_15 {p : Prg} {x : Nat → Int} {r : Rg} (h : x 0 = 15) : safeI p x r = inB (rget r (x 1).toNat) 0 (p.signs - 1) := by unfold safeI; rw [if_neg (by omega), if_neg (by omega), if_neg (by omega), if_pos h]
theorem safe_no {p : Prg} {x : Nat → Int} {r : Rg} (h1 : x 0 ≠ 8) (h2 : x 0 ≠ 12) (h3 : x 0 ≠ 13) (h4 : x 0 ≠ 15) : safeI p x r = true := by unfold safeI; rw [if_neg h1, if_neg h2, if_neg h3, if_neg h4]
end Go.Proofs.Ytkpdcejnanhgoaa
/- Walk: whether a hash may be. Condition: the hash lies in memory. -/
namespace Go.Proofs.Ytkpdcejnanhgoaa
open Go.RowKit
set_option maxRecDepth 100000 in
set_option maxHeartbeats 4000000 in
theorem hash_Right (vs vk vv : Value) (h : HashP) (w : World) (H : HashAt w vs vk vv h) :
    Calls Try.prog 60 #[.agg #[vs, vk, vv]] w fun e w' => e = .returned (.bool (hokI h)) ∧ Below w.heap.size w w' := by
  obtain ⟨asd, caps, hvs, hcs, hms, _⟩ := H.seeds.open (sz := 1) (f := u32C) (fun _ => rfl)
  obtain ⟨ak, capk, hvk, hck, hmk, hcellk⟩ := H.keys.open (sz := 1) (f := u64C) (fun _ => rfl)
  obtain ⟨av, capv, hvv, hcv, hmv, _⟩ := H.vals.open (sz := 1) (f := u64C) (fun _ => rfl)
  have HH := Lib.hid H
  clear H
  unfold maxLen at hms hmk hmv
  have hlen := fun hc => @hok_len h hc
  have hbad := fun i => @hok_bad h i
  have hgood := @hok_good h
  have hchk : ∀ i, chkI h i = (decide (placeI h (h.keys.getD i 0) = i) && (decide (h.seeds.length ≠ 0) || (decide (i = 0) || decide (h.keys.getD (i - 1) 0 < h.keys.getD i 0)))) := fun i => rfl
  obtain ⟨n, hn⟩ : ∃ n, n = h.keys.length := ⟨_, rfl⟩
  obtain ⟨m, hm⟩ : ∃ n, n = h.seeds.length := ⟨_, rfl⟩
  obtain ⟨q, hq⟩ : ∃ n, n = h.vals.length := ⟨_, rfl⟩
  rw [← hn] at hvk hck hcellk hlen hbad hgood
  rw [← hm] at hvs hcs hlen hgood hchk
  rw [← hq] at hvv hcv hlen hgood
  have Hn := Lib.hid hn
  have Hm := Lib.hid hm
  subst hvs hvk hvv
  clear hm hq hn
  by_cases h1 : 4096 < n
  · have HF := Lib.hid (hlen (by omega))
    clear hlen hbad hgood hchk
    generalize hokI h = B at HF ⊢
    go_enter Try.func60, Try.ntmps60
    repeat' (first | go_values | go_skip | go_guarded | go_step | go_upon)
    go_ret
    exact ⟨ret_b HF.out.symm, (Below.refl _ _).alloc (Nat.le_refl _) _⟩
  by_cases h2 : q = n
  rotate_left
  · have HF := Lib.hid (hlen (by omega))
    have hb : ((q : Int) != (n : Int)) = true := by rw [bne_iff_ne]; omega
    clear hlen hbad hgood hchk
    generalize hokI h = B at HF ⊢
    go_enter Try.func60, Try.ntmps60
    repeat' (first | go_values | go_skip | go_guarded | go_step | go_upon)
    go_ret
    exact ⟨ret_b HF.out.symm, (Below.refl _ _).alloc (Nat.le_refl _) _⟩
  have hqn : ((q : Int) != (n : Int)) = false := by rw [bne_eq_false_iff_eq]; omega
  by_cases h3 : 4096 < m
  · have HF := Lib.hid (hlen (by omega))
    clear hlen hbad hgood hchk h2
    generalize hokI h = B at HF ⊢
    go_enter Try.func60, Try.ntmps60
    repeat' (first | go_values | go_skip | go_guarded | go_step | go_upon)
    go_ret
    exact ⟨ret_b HF.out.symm, (Below.refl _ _).alloc (Nat.le_refl _) _⟩
  by_cases h0 : n = 0
  · have hq0 : q = 0 := by omega
    subst h0
    subst hq0
    clear hqn
    by_cases h4 : m = 0
    · subst h4
      have HF := Lib.hid (hgood ⟨by omega, rfl, by omega, .inr rfl⟩ (fun i hi => absurd hi (Nat.not_lt_zero _)))
      clear hlen hbad hgood hchk h2 hcellk
      generalize hokI h = B at HF ⊢
      go_enter Try.func60, Try.ntmps60
      repeat' (first | go_values | go_skip | go_guarded | go_step | go_upon)
      go_loopw [37] (fun s_ wr => ∃ k : Nat, s_ = .int .i64 k ∧ Hid (Below w.heap.size w wr)) (fun _ _ => 0)
      case atStart => exact ⟨0, rfl, Lib.hid ((Below.refl _ _).alloc (Nat.le_refl _) _)⟩
      case round =>
        obtain ⟨k, rfl, Hb⟩ := hrel
        repeat' (first | go_values | go_skip | go_guarded | go_step | go_upon)
        go_ret
        exact ⟨ret_b HF.out.symm, Hb.out⟩
    · have HF := Lib.hid (hlen (by omega))
      have hmz : ((m : Int) == 0) = false := beq_false_of_ne (by omega)
      have hmz2 : (0 : Int) < m := by omega
      clear hlen hbad hgood hchk h2 hcellk
      generalize hokI h = B at HF ⊢
      go_enter Try.func60, Try.ntmps60
      repeat' (first | go_values | go_skip | go_guarded | go_step | go_upon)
      go_ret
      exact ⟨ret_b HF.out.symm, (Below.refl _ _).alloc (Nat.le_refl _) _⟩
  rcases hcellk with hk0 | ⟨b, off, rfl, hb, hcellk⟩
  · exact absurd hk0 h0
  have hn4 : n ≤ 4096 := by omega
  have hm4 : m ≤ 4096 := by omega
  have Hcellk := Lib.hid hcellk
  have Hbad := Lib.hid hbad
  have Hgood : Hid ((∀ i, i < n → chkI h i = true) → hokI h = true) := Lib.hid (hgood ⟨by omega, h2, by omega, .inl h0⟩)
  have Hchk := Lib.hid hchk
  have hn0 : ((n : Int) == 0) = false := beq_false_of_ne (by omega)
  have Hp := Lib.hid fun k hk w H => hash_place (.slice asd m caps) (.slice (some ⟨b, off, none⟩) n capk) (.slice av q capv) h k hk w H (by rw [← Hn.out]; exact h0) (by rw [← Hn.out]; omega)
  have HB0 : Hid (HBox (w.alloc (.cells #[.slice asd m caps, .slice (some ⟨b, off, none⟩) n capk, .slice av q capv] 43)) w.heap.size (.slice asd m caps) (.slice (some ⟨b, off, none⟩) n capk) (.slice av q capv)) := Lib.hid (HBox.new _ _ _ _)
  have Hb0 : Hid (Below w.heap.size w (w.alloc (.cells #[.slice asd m caps, .slice (some ⟨b, off, none⟩) n capk, .slice av q capv] 43))) := Lib.hid ((Below.refl _ _).alloc (Nat.le_refl _) _)
  clear hlen hbad hgood hchk hcellk h2 h1 h3 hms hmk hmv hcs hcv
  generalize hokI h = B at Hbad Hgood ⊢
  go_enter Try.func60, Try.ntmps60
  repeat' (first | go_values | go_skip | go_guarded | go_step | go_upon)
  obtain ⟨wb, hwb⟩ : ∃ wb, wb = w.alloc (.cells #[.slice asd m caps, .slice (some ⟨b, off, none⟩) n capk, .slice av q capv] 43) := ⟨_, rfl⟩
  have HB1 : Hid (HBox wb w.heap.size (.slice asd m caps) (.slice (some ⟨b, off, none⟩) n capk) (.slice av q capv)) := Lib.hid (by rw [hwb]; exact HB0.out)
  have Hb1 : Hid (Below w.heap.size w wb) := Lib.hid (by rw [hwb]; exact Hb0.out)
  rw [← hwb]
  clear hwb HB0 Hb0
  go_loopw [37] (fun s_ wr => ∃ k : Nat, s_ = .int .i64 k ∧ k ≤ n ∧ Hid (∀ i, i < k → chkI h i = true) ∧ Hid (HBox wr w.heap.size (.slice asd m caps) (.slice (some ⟨b, off, none⟩) n capk) (.slice av q capv)) ∧ Hid (Below w.heap.size w wr)) (fun s_ _ => n - (intOf s_).toNat)
  case atStart => exact ⟨0, rfl, Nat.zero_le _, Lib.hid fun i hi => absurd hi (Nat.not_lt_zero _), HB1, Hb1⟩
  case round =>
    clear HB1 Hb1
    obtain ⟨k, rfl, hk, Ha, HB, Hb⟩ := hrel
    by_cases hlt : k < n
    · have ck := row1 (d := 0) Hcellk.out k (by rw [← Hn.out]; omega)
      rw [← Hb.out.cell (show b < w.heap.size from hb)] at ck
      simp only [u64C, List.getElem?_cons_zero] at ck
      have cp : 1 ≤ k → wr.cell? ⟨b, off + (k - 1), none⟩ = some (.int .u64 (h.keys.getD (k - 1) 0 : Nat)) := fun h1 => by
        have := row1 (d := 0) Hcellk.out (k - 1) (by rw [← Hn.out]; omega)
        rw [← Hb.out.cell (show b < w.heap.size from hb)] at this
        simpa only [u64C, List.getElem?_cons_zero] using this
      have hkb := HH.out.kb k
      have hkb2 := HH.out.kb (k - 1)
      have Hpk := Lib.hid fun w H => Hp.out (h.keys.getD k 0) hkb w H
      have HHr := Lib.hid (HH.out.keep Hb.out)
      have Hck := Lib.hid (Hchk.out k)
      have Hbk := Lib.hid (Hbad.out k hlt)
      generalize h.keys.getD k 0 = x at ck hkb Hpk Hck
      generalize h.keys.getD (k - 1) 0 = y at cp hkb2 Hck
      generalize placeI h x = pl at Hpk Hck
      obtain ⟨ch, hch⟩ : ∃ c, c = chkI h k := ⟨_, rfl⟩
      rw [← hch] at Hck Hbk
      have Hch := Lib.hid hch
      clear hch
      have hbB : b < wr.heap.size := Nat.lt_of_lt_of_le hb Hb.out.size
      have cp2 : ∀ w2, Below wr.heap.size wr w2 → 1 ≤ k → w2.cell? ⟨b, off + (k - 1), none⟩ = some (.int .u64 (y : Nat)) := fun w2 hb2 h1 => by rw [hb2.cell (show b < wr.heap.size from hbB)]; exact cp h1
      clear cp
      by_cases hA : pl = (k : Int)
      rotate_left
      · have HF := Lib.hid (Hbk.out (by rw [Hck.out, decide_eq_false hA]; rfl))
        have hA1 : (pl != (k : Int)) = true := by rw [bne_iff_ne]; exact hA
        clear hA
        have c0 := HB.out.c0
        have c1 := HB.out.c1
        have c2 := HB.out.c2
        repeat' (first | go_values | go_skip | go_guarded | go_step | go_upon)
        refine Calls.mono (Hpk.out _ HHr.out) ?_
        rintro _ w2 ⟨rfl, hb2⟩
        dsimp only
        have HB2 := Lib.hid (HB.out.keep hb2)
        have Hb2 := Lib.hid (Hb.out.trans (hb2.mono Hb.out.size))
        have d0 := HB2.out.c0
        have d1 := HB2.out.c1
        skip
        clear hb2
        repeat' (first | go_values | go_skip | go_guarded | go_step | go_upon)
        go_ret
        exact ⟨ret_b HF.out.symm, Hb2.out⟩
      have hA1 : (pl != (k : Int)) = false := by rw [bne_eq_false_iff_eq]; exact hA
      have hAd : decide (pl = (k : Int)) = true := decide_eq_true hA
      have HAd := Lib.hid hAd
      clear hA hAd
      by_cases hm0 : m = 0
      rotate_left
      · have Hok : Hid (ch = true) := Lib.hid (by rw [Hck.out, HAd.out, decide_eq_true hm0]; rfl)
        have hm1 : ((m : Int) == 0) = false := beq_false_of_ne (by omega)
        have hm2 : ((m : Int) != 0) = true := by rw [bne_iff_ne]; omega
        have hlt1 : (k : Int) < n := by omega
        have Hlt := Lib.hid hlt
        clear hm0 hlt cp2
        have c0 := HB.out.c0
        have c1 := HB.out.c1
        have c2 := HB.out.c2
        repeat' (first | go_values | go_skip | go_guarded | go_step | go_upon)
        refine Calls.mono (Hpk.out _ HHr.out) ?_
        rintro _ w2 ⟨rfl, hb2⟩
        dsimp only
        have HB2 := Lib.hid (HB.out.keep hb2)
        have Hb2 := Lib.hid (Hb.out.trans (hb2.mono Hb.out.size))
        have d0 := HB2.out.c0
        have d1 := HB2.out.c1
        skip
        clear hb2
        repeat' (first | go_values | go_skip | go_guarded | go_step | go_upon)
        go_roundw
        case rel => exact ⟨k + 1, by go_num, Hlt.out, Lib.hid fun i hi => by
          rcases Nat.lt_or_ge i k with h1 | h1
          · exact Ha.out i h1
          · obtain rfl : i = k := by omega
            exact Hch.out.symm.trans Hok.out, HB2, Hb2⟩
        case measure => simp [intOf]; omega
      have hm1 : ((m : Int) == 0) = true := by rw [beq_iff_eq]; omega
      by_cases hk0 : k = 0
      · have Hok : Hid (ch = true) := Lib.hid (by rw [Hck.out, HAd.out, decide_eq_true hk0]; simp)
        have hk1 : (k : Int) ≤ 0 := by omega
        have hlt1 : (k : Int) < n := by omega
        have Hlt := Lib.hid hlt
        clear hk0 hm0 hlt cp2
        have c0 := HB.out.c0
        have c1 := HB.out.c1
        have c2 := HB.out.c2
        repeat' (first | go_values | go_skip | go_guarded | go_step | go_upon)
        refine Calls.mono (Hpk.out _ HHr.out) ?_
        rintro _ w2 ⟨rfl, hb2⟩
        dsimp only
        have HB2 := Lib.hid (HB.out.keep hb2)
        have Hb2 := Lib.hid (Hb.out.trans (hb2.mono Hb.out.size))
        have d0 := HB2.out.c0
        have d1 := HB2.out.c1
        skip
        clear hb2
        repeat' (first | go_values | go_skip | go_guarded | go_step | go_upon)
        go_roundw
        case rel => exact ⟨k + 1, by go_num, Hlt.out, Lib.hid fun i hi => by
          rcases Nat.lt_or_ge i k with h1 | h1
          · exact Ha.out i h1
          · obtain rfl : i = k := by omega
            exact Hch.out.symm.trans Hok.out, HB2, Hb2⟩
        case measure => simp [intOf]; omega
      have hk1 : (0 : Int) < k := by omega
      have hkm : ((k : Int) - 1).toNat = k - 1 := by omega
      have hkn : k - 1 < n := by omega
      by_cases hxy : y < x
      · have Hok : Hid (ch = true) := Lib.hid (by rw [Hck.out, HAd.out, decide_eq_true hxy]; simp)
        have hx1 : (y : Int) < x := by omega
        have hlt1 : (k : Int) < n := by omega
        have Hlt := Lib.hid hlt
        clear hxy hm0 hk0 hlt
        have c0 := HB.out.c0
        have c1 := HB.out.c1
        have c2 := HB.out.c2
        repeat' (first | go_values | go_skip | go_guarded | go_step | go_upon)
        refine Calls.mono (Hpk.out _ HHr.out) ?_
        rintro _ w2 ⟨rfl, hb2⟩
        dsimp only
        have HB2 := Lib.hid (HB.out.keep hb2)
        have Hb2 := Lib.hid (Hb.out.trans (hb2.mono Hb.out.size))
        have d0 := HB2.out.c0
        have d1 := HB2.out.c1
        have cy := cp2 w2 hb2 (by omega)
        clear cp2
        clear hb2
        repeat' (first | go_values | go_skip | go_guarded | go_step | go_upon)
        go_roundw
        case rel => exact ⟨k + 1, by go_num, Hlt.out, Lib.hid fun i hi => by
          rcases Nat.lt_or_ge i k with h1 | h1
          · exact Ha.out i h1
          · obtain rfl : i = k := by omega
            exact Hch.out.symm.trans Hok.out, HB2, Hb2⟩
        case measure => simp [intOf]; omega
      · have HF := Lib.hid (Hbk.out (by rw [Hck.out, HAd.out, decide_eq_false hxy, decide_eq_false hk0, decide_eq_false (by omega : ¬ m ≠ 0)]; rfl))
        have hx1 : (x : Int) ≤ y := by omega
        have hlt1 : (k : Int) < n := by omega
        clear hxy hm0 hk0 hlt
        have c0 := HB.out.c0
        have c1 := HB.out.c1
        have c2 := HB.out.c2
        repeat' (first | go_values | go_skip | go_guarded | go_step | go_upon)
        refine Calls.mono (Hpk.out _ HHr.out) ?_
        rintro _ w2 ⟨rfl, hb2⟩
        dsimp only
        have HB2 := Lib.hid (HB.out.keep hb2)
        have Hb2 := Lib.hid (Hb.out.trans (hb2.mono Hb.out.size))
        have d0 := HB2.out.c0
        have d1 := HB2.out.c1
        have cy := cp2 w2 hb2 (by omega)
        clear cp2
        clear hb2
        repeat' (first | go_values | go_skip | go_guarded | go_step | go_upon)
        go_ret
        exact ⟨ret_b HF.out.symm, Hb2.out⟩
    · obtain rfl : k = n := by omega
      have HF := Lib.hid (Hgood.out Ha.out)
      repeat' (first | go_values | go_skip | go_guarded | go_step | go_upon)
      go_ret
      exact ⟨ret_b HF.out.symm, Hb.out⟩
end Go.Proofs.Ytkpdcejnanhgoaa
/- Walks: a key's place in a hash, by the reference. Conditions: the hash lies in memory. -/
namespace Go.Proofs.Ytkpdcejnanhgoaa
open Go.RowKit
end Go.Proofs.Ytkpdcejnanhgoaa
/- Walk: whether a hash may be, by the reference. Condition: the hash lies in memory. -/
namespace Go.Proofs.Ytkpdcejnanhgoaa
open Go.RowKit
end Go.Proofs.Ytkpdcejnanhgoaa
/- Walk: a key's value in any hash (hash.Get). Conditions: the hash lies in memory. -/
namespace Go.Proofs.Ytkpdcejnanhgoaa
open Go.RowKit
set_option maxRecDepth 100000 in
set_option maxHeartbeats 1000000 in
theorem hash_place2 (vs vk vv : Value) (h : HashP) (k : Nat) (hk : U64 k) (w : World) (H : HashAt w vs vk vv h) (hn : h.keys.length ≠ 0) (hn4 : h.keys.length ≤ 35184372088832) :
    Calls Try.prog 72 #[.agg #[vs, vk, vv], .int .u64 k] w fun e w' => e = .returned (.int .i64 (placeI h k)) ∧ Below w.heap.size w w' := by
  obtain ⟨asd, caps, rfl, hcs, hms, hcells⟩ := H.seeds.open (sz := 1) (f := u32C) (fun _ => rfl)
  obtain ⟨ak, capk, rfl, hck, hmk, hcellk⟩ := H.keys.open (sz := 1) (f := u64C) (fun _ => rfl)
  have Hsb := Lib.hid H.sb
  obtain ⟨n, hn'⟩ : ∃ n, n = h.keys.length := ⟨_, rfl⟩
  obtain ⟨m, hm'⟩ : ∃ m, m = h.seeds.length := ⟨_, rfl⟩
  have hP0 : m = 0 → placeI h k = (bsI h.keys k n 0 n : Nat) := fun h0 => by rw [hm'] at h0; rw [placeI, if_pos h0, hn']
  have hP1 : m ≠ 0 → placeI h k = mixI (h.seeds.getD (mixI 0 k % (m : Int)).toNat 0 : Nat) k % (n : Int) := fun h0 => by rw [hm'] at h0; rw [placeI, if_neg h0, hn', hm']
  rw [← hn'] at hck hcellk hn hn4 ⊢
  rw [← hm'] at hcs hcells ⊢
  have Hn := Lib.hid hn'; have Hm := Lib.hid hm'
  have Hkb := Lib.hid H.kb
  have hk' := hk
  unfold U64 at hk'
  clear hn' hm' H
  unfold maxLen at hms hmk
  rcases hcellk with hk0 | ⟨b, off, rfl, hb, hcellk⟩
  · exact absurd hk0 hn
  have Hcellk := Lib.hid hcellk
  have HB0 : Hid (HBox (w.alloc (.cells #[.slice asd m caps, .slice (some ⟨b, off, none⟩) n capk, vv] 43)) w.heap.size (.slice asd m caps) (.slice (some ⟨b, off, none⟩) n capk) vv) := Lib.hid (HBox.new _ _ _ _)
  have Hb0 : Hid (Below w.heap.size w (w.alloc (.cells #[.slice asd m caps, .slice (some ⟨b, off, none⟩) n capk, vv] 43))) := Lib.hid ((Below.refl _ _).alloc (Nat.le_refl _) _)
  clear hcellk
  by_cases h0 : m = 0
  · rw [hP0 h0]
    subst h0
    clear hP0 hP1 hcells Hsb
    go_enter Try.func72, Try.ntmps72
    repeat' (first | go_values | go_skip | go_guarded | go_step | go_upon)
    obtain ⟨wb, hwb⟩ : ∃ wb, wb = w.alloc (.cells #[.slice asd 0 caps, .slice (some ⟨b, off, none⟩) n capk, vv] 43) := ⟨_, rfl⟩
    have HB1 : Hid (HBox wb w.heap.size (.slice asd 0 caps) (.slice (some ⟨b, off, none⟩) n capk) vv) := Lib.hid (by rw [hwb]; exact HB0.out)
    have Hb1 : Hid (Below w.heap.size w wb) := Lib.hid (by rw [hwb]; exact Hb0.out)
    rw [← hwb]
    clear hwb HB0 Hb0
    have q0 : ∀ nq : WB wb, nq.1.cell? ⟨w.heap.size, 1, none⟩ = some (.slice (some ⟨b, off, none⟩) n capk) := fun nq => (HB1.out.keep nq.2).c1
    refine wp_region_wb (by kernel_rfl) (by kernel_rfl) wb (Below.refl _ _) ?_
    repeat (go_big_quiet_step ((fail)))
    refine wpQuiet_nil ?_
    rintro _ ⟨nq, rfl⟩
    have hnq := nq.2
    clear q0
    have HB2 := Lib.hid (HB1.out.keep hnq)
    have Hb2 := Lib.hid (Hb1.out.trans (hnq.mono Hb1.out.size))
    clear HB1 Hb1 hnq
    repeat' (first | go_values | go_skip | go_guarded | go_step | go_upon)
    go_loopw [5, 6] (fun s5 s6 wr => ∃ lo hi : Nat, s5 = .int .i64 lo ∧ s6 = .int .i64 hi ∧ lo ≤ hi ∧ hi ≤ n ∧ Hid (bsI h.keys k n 0 n = bsI h.keys k (hi - lo) lo hi) ∧ Hid (HBox wr w.heap.size (.slice asd 0 caps) (.slice (some ⟨b, off, none⟩) n capk) vv) ∧ Hid (Below w.heap.size w wr)) (fun s5 s6 _ => (intOf s6).toNat - (intOf s5).toNat)
    case atStart => exact ⟨0, n, rfl, rfl, Nat.zero_le _, Nat.le_refl _, Lib.hid rfl, HB2, Hb2⟩
    case round =>
      clear HB2 Hb2
      obtain ⟨lo, hi, rfl, rfl, h1, h2, He, HB, Hb⟩ := hrel
      by_cases hlt : lo < hi
      · obtain ⟨md, hmd⟩ : ∃ md, md = (lo + hi) / 2 := ⟨_, rfl⟩
        have hm1 : ((lo : Int) + hi).tdiv 2 = md := by rw [hmd, Int.tdiv_eq_ediv_of_nonneg (by omega)]; omega
        have hm2 : md < hi := by omega
        have hm3 : lo ≤ md := by omega
        have c1 := HB.out.c1
        have ck := row1 (d := 0) Hcellk.out md (by rw [← Hn.out]; omega)
        rw [← Hb.out.cell (show b < w.heap.size from hb)] at ck
        have Hs : Hid (∀ x, x = h.keys.getD md 0 → (x < k → bsI h.keys k n 0 n = bsI h.keys k (hi - (md + 1)) (md + 1) hi) ∧ (¬ x < k → bsI h.keys k n 0 n = bsI h.keys k (md - lo) lo md)) := Lib.hid fun x hx => by
          have e : hi - lo = (hi - lo - 1) + 1 := by omega
          rw [He.out, e, bsI, if_pos hlt, ← hmd, ← hx]
          refine ⟨fun hc => ?_, fun hc => ?_⟩
          · rw [if_pos hc]; exact bsI_fuel _ _ _ _ _ _ (by omega) (by omega)
          · rw [if_neg hc]; exact bsI_fuel _ _ _ _ _ _ (by omega) (by omega)
        obtain ⟨x, hx⟩ : ∃ x, x = h.keys.getD md 0 := ⟨_, rfl⟩
        rw [← hx] at ck
        have Hs2 := Lib.hid (Hs.out x hx)
        simp only [u64C, List.getElem?_cons_zero] at ck
        clear hmd He Hs hx
        by_cases hc : x < k
        · repeat' (first | go_values | go_skip | go_guarded | go_step | go_upon)
          go_roundw
          case rel => exact ⟨md + 1, hi, by go_num, rfl, by omega, h2, Lib.hid (Hs2.out.1 hc), HB, Hb⟩
          case measure => simp [intOf]; omega
        · repeat' (first | go_values | go_skip | go_guarded | go_step | go_upon)
          go_roundw
          case rel => exact ⟨lo, md, rfl, rfl, by omega, by omega, Lib.hid (Hs2.out.2 hc), HB, Hb⟩
          case measure => simp [intOf]; omega
      · have e := He.out
        rw [bsI_stop _ _ _ _ _ hlt] at e
        have hh : hi = lo := by omega
        subst hh
        have E := Lib.hid e
        clear e He
        repeat' (first | go_values | go_skip | go_guarded | go_step | go_upon)
        go_ret
        exact ⟨by rw [E.out]; rfl, Hb.out⟩
  · have HM0 := Lib.hid fun w => hash_Mix 0 k (by decide) w
    have hmi := mixI_in 0 k
    have hP2 := hP1 h0
    rw [show ((0 : Nat) : Int) = 0 from rfl] at HM0
    generalize mixI 0 k = x0 at HM0 hmi hP2
    obtain ⟨i, hi⟩ : ∃ i : Nat, (i : Int) = x0 % (m : Int) := ⟨(x0 % (m : Int)).toNat, by have := Int.emod_nonneg x0 (b := (m : Int)) (by omega); omega⟩
    have him : i < m := by have := Int.emod_lt_of_pos x0 (b := (m : Int)) (by omega); omega
    have hit : (x0 % (m : Int)).toNat = i := by omega
    rw [hit] at hP2
    rcases hcells with hk0 | ⟨bs, offs, rfl, hbs, hcells⟩
    · exact absurd hk0 h0
    have cs := row1 (d := 0) hcells i (by rw [← Hm.out]; exact him)
    have hsb := Hsb.out i
    generalize h.seeds.getD i 0 = sd at cs hsb hP2
    simp only [u32C, List.getElem?_cons_zero] at cs
    have HM1 := Lib.hid fun w => hash_Mix sd k hsb w
    have hmi2 := mixI_in sd k
    generalize mixI sd k = x1 at HM1 hmi2 hP2
    rw [hP2]
    have hm0 : (m : Int) ≠ 0 := by omega
    have hn0 : (n : Int) ≠ 0 := by omega
    have ht0 : x0.tmod (m : Int) = i := by rw [Int.tmod_eq_emod_of_nonneg hmi.1]; exact hi.symm
    have ht1 : x1.tmod (n : Int) = x1 % (n : Int) := Int.tmod_eq_emod_of_nonneg hmi2.1
    have hr0 : 0 ≤ x1 % (n : Int) := Int.emod_nonneg _ hn0
    have hr1 : x1 % (n : Int) < n := Int.emod_lt_of_pos _ (by omega)
    obtain ⟨r, hr⟩ : ∃ r, r = x1 % (n : Int) := ⟨_, rfl⟩
    rw [← hr] at ht1 hr0 hr1 ⊢
    clear hP0 hP1 hP2 hcells Hsb hit hi hr Hkb Hcellk Hn Hm
    go_enter Try.func72, Try.ntmps72
    repeat' (first | go_values | go_skip | go_guarded | go_step | go_upon)
    obtain ⟨wb, hwb⟩ : ∃ wb, wb = w.alloc (.cells #[.slice (some ⟨bs, offs, none⟩) m caps, .slice (some ⟨b, off, none⟩) n capk, vv] 43) := ⟨_, rfl⟩
    have HB1 : Hid (HBox wb w.heap.size (.slice (some ⟨bs, offs, none⟩) m caps) (.slice (some ⟨b, off, none⟩) n capk) vv) := Lib.hid (by rw [hwb]; exact HB0.out)
    have Hb1 : Hid (Below w.heap.size w wb) := Lib.hid (by rw [hwb]; exact Hb0.out)
    rw [← hwb]
    clear hwb HB0 Hb0
    rw [← Hb1.out.cell (show bs < w.heap.size from hbs)] at cs
    have hbs2 : bs < wb.heap.size := Nat.lt_of_lt_of_le hbs Hb1.out.size
    have q0 : ∀ nq : WB wb, nq.1.cell? ⟨w.heap.size, 0, none⟩ = some (.slice (some ⟨bs, offs, none⟩) m caps) := fun nq => (HB1.out.keep nq.2).c0
    have q1 : ∀ nq : WB wb, nq.1.cell? ⟨w.heap.size, 1, none⟩ = some (.slice (some ⟨b, off, none⟩) n capk) := fun nq => (HB1.out.keep nq.2).c1
    have q2 : ∀ nq : WB wb, nq.1.cell? ⟨bs, offs + i, none⟩ = some (.int .u32 sd) := fun nq => by rw [nq.cell hbs2]; exact cs
    clear cs
    refine wp_region_wb (by kernel_rfl) (by kernel_rfl) wb (Below.refl _ _) ?_
    repeat (go_big_quiet_step (((go_at_call 76; exact calls_wb_same (HM0.out _)))))
    refine wpQuiet_nil ?_
    rintro _ ⟨nq, rfl⟩
    have hnq := nq.2
    clear HM0
    repeat' (first | go_values | go_skip | go_guarded | go_step | go_upon)
    refine wp_region_wb (by kernel_rfl) (by kernel_rfl) wb hnq ?_
    repeat (go_big_quiet_step (((go_at_call 76; exact calls_wb_same (HM1.out _)))))
    refine wpQuiet_nil ?_
    rintro _ ⟨nq, rfl⟩
    have hnq := nq.2
    repeat' (first | go_values | go_skip | go_guarded | go_step | go_upon)
    go_ret
    exact ⟨rfl, Hb1.out.trans (hnq.mono Hb1.out.size)⟩
theorem place_nat (h : HashP) (k : Nat) (hn : h.keys.length ≠ 0) : ∃ q : Nat, placeI h k = (q : Int) := by
  unfold placeI
  split
  · exact ⟨_, rfl⟩
  · exact ⟨(mixI (h.seeds.getD (mixI 0 k % (h.seeds.length : Int)).toNat 0 : Nat) k % (h.keys.length : Int)).toNat, (Int.toNat_of_nonneg (Int.emod_nonneg _ (by omega))).symm⟩
set_option maxRecDepth 100000 in
set_option maxHeartbeats 4000000 in
theorem hash_Get (vs vk vv : Value) (h : HashP) (k : Nat) (hk : U64 k) (w : World) (H : HashAt w vs vk vv h) (hn4 : h.keys.length ≤ 35184372088832) :
    Calls Try.prog 78 #[.agg #[vs, vk, vv], .int .u64 k] w fun e w' => (∃ (x : Nat) (b : Bool), e = .returned (.tuple #[.int .u64 x, .bool b]) ∧ (b = true → x ∈ h.vals) ∧ U64 x) ∧ Below w.heap.size w w' := by
  obtain ⟨asd, caps, hvs, hcs, hms, _⟩ := H.seeds.open (sz := 1) (f := u32C) (fun _ => rfl)
  obtain ⟨ak, capk, hvk, hck, hmk, hcellk⟩ := H.keys.open (sz := 1) (f := u64C) (fun _ => rfl)
  obtain ⟨av, capv, hvv, hcv, hmv, hcellv⟩ := H.vals.open (sz := 1) (f := u64C) (fun _ => rfl)
  obtain ⟨m, hm⟩ : ∃ n, n = h.seeds.length := ⟨_, rfl⟩
  obtain ⟨n, hn⟩ : ∃ n, n = h.keys.length := ⟨_, rfl⟩
  obtain ⟨q, hq⟩ : ∃ n, n = h.vals.length := ⟨_, rfl⟩
  have HH := Lib.hid H
  rw [← hm] at hvs
  rw [← hn] at hvk hck hcellk hn4
  rw [← hq] at hvv hcv hcellv
  have Hn := Lib.hid hn
  have Hq := Lib.hid hq
  have HB0 : Hid (HBox (w.alloc (.cells #[vs, vk, vv] 43)) w.heap.size vs vk vv) := Lib.hid (HBox.new _ _ _ _)
  have Hb0 : Hid (Below w.heap.size w (w.alloc (.cells #[vs, vk, vv] 43))) := Lib.hid ((Below.refl _ _).alloc (Nat.le_refl _) _)
  have HP := Lib.hid fun (hn0 : h.keys.length ≠ 0) (w' : World) (hb : Below w.heap.size w w') => hash_place2 vs vk vv h k hk w' (H.keep hb) hn0 (by rw [← Hn.out]; exact hn4)
  have Hpn := Lib.hid (place_nat h k)
  have Hvb := Lib.hid H.vb
  subst hvs hvk hvv
  unfold maxLen at hmk hmv
  clear H hm hn hq
  have hu0 : U64 0 := u64_small (by decide)
  by_cases h0 : n = 0
  · subst h0
    clear HP Hpn
    go_enter Try.func78, Try.ntmps78
    repeat' (first | go_values | go_skip | go_guarded | go_step | go_upon)
    go_ret2
    exact ⟨⟨0, false, rfl, fun h => by simp at h, hu0⟩, Hb0.out⟩
  have hnb : ((n : Int) == 0) = false := beq_false_of_ne (by omega)
  by_cases h1 : q = n
  rotate_left
  · have hqb : ((q : Int) != (n : Int)) = true := by rw [bne_iff_ne]; omega
    go_enter Try.func78, Try.ntmps78
    repeat' (first | go_values | go_skip | go_guarded | go_step | go_upon)
    go_ret2
    exact ⟨⟨0, false, rfl, fun h => by simp at h, hu0⟩, Hb0.out⟩
  obtain rfl : n = q := h1.symm
  have hqb : ((n : Int) != (n : Int)) = false := by rw [bne_eq_false_iff_eq]
  obtain ⟨pl, hpl⟩ := Hpn.out (by rw [← Hn.out]; exact h0)
  have HP1 := Lib.hid (HP.out (by rw [← Hn.out]; exact h0))
  rw [hpl] at HP1
  clear hpl HP Hpn
  rcases hcellk with h0' | ⟨bk, ok, rfl, hbk, hcellk⟩
  · exact absurd h0' h0
  rcases hcellv with h0' | ⟨bv, ov, rfl, hbv, hcellv⟩
  · omega
  go_enter Try.func78, Try.ntmps78
  repeat' (first | go_values | go_skip | go_guarded | go_step | go_upon)
  refine Calls.mono (HP1.out _ Hb0.out) ?_
  rintro _ w1 ⟨rfl, hb1⟩
  dsimp only
  have HB1 := Lib.hid (HB0.out.keep hb1)
  have B1 := Lib.hid (Hb0.out.trans (hb1.mono Hb0.out.size))
  clear hb1 HB0 Hb0 HP1
  have e1 := HB1.out.c1
  have e2 := HB1.out.c2
  by_cases hp : n ≤ pl
  · repeat' (first | go_values | go_skip | go_guarded | go_step | go_upon)
    go_ret2
    exact ⟨⟨0, false, rfl, fun h => by simp at h, hu0⟩, B1.out⟩
  have hp' : pl < n := by omega
  have ck := row1 (d := 0) hcellk pl (by rw [← Hn.out]; exact hp')
  have cv := row1 (d := 0) hcellv pl (by rw [← Hq.out]; omega)
  rw [← B1.out.cell (show bk < w.heap.size from hbk)] at ck
  rw [← B1.out.cell (show bv < w.heap.size from hbv)] at cv
  have hvu := Hvb.out pl
  have hvm : h.vals.getD pl 0 ∈ h.vals := by
    rw [List.getD_eq_getElem?_getD, List.getElem?_eq_getElem (by rw [← Hq.out]; omega)]; exact List.getElem_mem _
  have Hvm := Lib.hid hvm
  clear hvm
  generalize h.keys.getD pl 0 = kx at ck
  generalize h.vals.getD pl 0 = vx at cv hvu Hvm
  simp only [u64C, List.getElem?_cons_zero] at ck cv
  by_cases hk1 : kx = k
  · have hkb : ((kx : Int) != (k : Int)) = false := by rw [bne_eq_false_iff_eq]; omega
    repeat' (first | go_values | go_skip | go_guarded | go_step | go_upon)
    go_ret2
    exact ⟨⟨vx, true, rfl, fun _ => Hvm.out, hvu⟩, B1.out⟩
  · have hkb : ((kx : Int) != (k : Int)) = true := by rw [bne_iff_ne]; omega
    repeat' (first | go_values | go_skip | go_guarded | go_step | go_upon)
    go_ret2
    exact ⟨⟨0, false, rfl, fun h => by simp at h, hu0⟩, B1.out⟩
end Go.Proofs.Ytkpdcejnanhgoaa
