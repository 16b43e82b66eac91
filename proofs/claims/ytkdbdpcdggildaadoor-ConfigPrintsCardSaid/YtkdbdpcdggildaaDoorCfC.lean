/- Walk: the texts of merges, by the reference (fretsawref13.Texts): it ends, with some texts or none. Condition: a row of merges. Walks: whether merges may be (fretsawref13.Texts, merge.Texts): the error. Condition: a row of merges. Walk: whether merges may be (merge.Texts, merge.Right): the error. Condition: a row of merges. Walks: slices.Contains of texts, slices.ContainsFunc of ints (whether a frame names what there is), and the reference's frame. Condition: the rows lie in memory. -/
import Derived.Test.YtkdbdpcdggildaaDoorCfA
import Derived.Test.YtkdbdpcdggildaaDoorAnyC
import Derived.Test.YtkdbdpcdggildaaDoorOwnRows
import Derived.Deep.Cut
import Derived.Test.YtkdbdpcdggildaaDoorCfB
import Derived.Deep.LoopGhost
import Derived.Deep.CutBlock
import Derived.Lib.JoinLaws
import Derived.Test.YtkdbdpcdggildaaDoorReFunc
namespace Go.Proofs.YtkdbdpcdggildaaDoor
open Go.RowKit
/-- a merge's cells -/
def mgC (m : Int × Int) : List Value := [.int .i64 m.1, .int .i64 m.2]
theorem mgC_len (m : Int × Int) : (mgC m).length = 2 := rfl
theorem strC_len (l : List UInt8) : (strC l).length = 1 := rfl
theorem info_str13 : (Tryd.prog.info? 9).map (fun i => (i.zero, i.size, i.bytes)) = some (some (.string ⟨#[]⟩), 1, 16) := by kernel_rfl
/-- two cells of a merge -/
theorem mg_cells {w : World} {b off : Nat} {l : List (Int × Int)} (h : ∀ (i : Nat) (x : Int × Int) (j : Nat), l[i]? = some x → j < 2 → w.cell? ⟨b, off + (i * 2 + j), none⟩ = (mgC x)[j]?) (k : Nat) (hk : k < l.length) :
    w.cell? ⟨b, off + k * 2, none⟩ = some (.int .i64 (l.getD k (0, 0)).1) ∧ w.cell? ⟨b, off + k * 2 + 1, none⟩ = some (.int .i64 (l.getD k (0, 0)).2) := by
  have hx : l[k]? = some (l.getD k (0, 0)) := by rw [List.getD_eq_getElem?_getD, List.getElem?_eq_getElem hk]; rfl
  exact ⟨h k _ 0 hx (by decide), h k _ 1 hx (by decide)⟩
/-- a text of the call's own row -/
theorem own_str {B : Nat} {w : World} {g n cap : Nat} {ts : List (List UInt8)} (h : OwnR strC 1 B 9 w (.slice (some ⟨g, 0, none⟩) n cap) ts) (i : Nat) (hi : i < ts.length) : w.cell? ⟨g, i, none⟩ = some (.string ⟨(ts.getD i []).toArray⟩) := by
  have hx : ts[i]? = some (ts.getD i []) := by rw [List.getD_eq_getElem?_getD, List.getElem?_eq_getElem hi]; rfl
  have := h.cellAt strC_len i _ 0 hx (by decide)
  simpa [strC] using this
theorem getD_all {α : Type} {p : α → Prop} {l : List α} {d : α} (h : ∀ x ∈ l, p x) {k : Nat} (hk : k < l.length) : p (l.getD k d) := by
  rw [List.getD_eq_getElem?_getD, List.getElem?_eq_getElem hk]; exact h _ (List.getElem_mem hk)
theorem own_empty {α : Type} {f : α → List Value} {sz B : Nat} {e : TypeId} (W : World) (hB : B ≤ W.heap.size) : OwnR f sz B e (W.alloc (.cells #[] e)) (.slice (some ⟨W.heap.size, 0, none⟩) 0 0) ([] : List α) :=
  ⟨by simp, .inr ⟨W.heap.size, 0, #[], (0, 0), rfl, hB, Go.heap_alloc_new _ _, fun j h => by simp at h, Nat.le_refl _, Nat.zero_le _, by simp, by simp⟩⟩
theorem ba_cat13 (a b : List UInt8) : (⟨a.toArray⟩ : ByteArray) ++ ⟨b.toArray⟩ = ⟨(a ++ b).toArray⟩ := by
  apply ByteArray.ext
  rw [ByteArray.data_append]
  simp
theorem genC13 {P : Program} {md : Region.Mode} {ops : Array Oper} {C : World → Prop} {Q : Exit → Act → World → Prop} {fuel : Nat} {listed : Array Bool} {a : Act} {w : World} (F : World → Prop) (hF : F w) (h : ∀ w', F w' → wpAnyC P md ops C Q fuel listed a w') : wpAnyC P md ops C Q fuel listed a w := h w hF
theorem short_snoc {ts : List (List UInt8)} (h : ∀ t ∈ ts, t.length ≤ 64) {x : List UInt8} (hx : x.length ≤ 64) : ∀ t ∈ ts ++ [x], t.length ≤ 64 := fun t ht => by
  rcases List.mem_append.1 ht with ht | ht
  · exact h t ht
  · simp at ht; rw [ht]; exact hx
set_option maxRecDepth 100000 in
set_option maxHeartbeats 4000000 in
theorem ref_Texts (v : Value) (l : List (Int × Int)) (w : World) (h : RowOf mgC 2 w v l) :
    Calls Tryd.prog 18 #[v] w fun e w' => (∃ u c, e = .returned (.tuple #[u, .int .i64 c])) ∧ Below w.heap.size w w' := by
  obtain ⟨ad, cap, rfl, hcap, hmx, hcell⟩ := h.open mgC_len
  clear h
  obtain ⟨n, hn⟩ : ∃ n, n = l.length := ⟨_, rfl⟩
  have Hn := Lib.hid hn
  rw [← hn] at hcap hcell ⊢
  clear hn
  unfold maxLen at hmx
  by_cases h1 : 1024 < n
  · go_enter Tryd.func18, Tryd.ntmps18
    repeat' (first | go_values | go_skip | go_guarded | go_step | go_upon)
    go_ret2
    exact ⟨⟨_, _, rfl⟩, Below.refl _ _⟩
  go_enter Tryd.func18, Tryd.ntmps18
  repeat' (first | go_values | go_skip | go_guarded | go_step | go_upon)
  have O0 := Lib.hid (own_empty (f := strC) (sz := 1) (e := 9) w (Nat.le_refl _))
  have B0 := Lib.hid ((Below.refl w.heap.size w).alloc (Nat.le_refl _) (.cells #[] 9))
  generalize w.alloc (.cells #[] 9) = w0 at O0 B0 ⊢
  go_loopw [5, 4] (fun s5 s4 wr => ∃ (b : Nat) (ts : List (List UInt8)), s5 = .int .i64 b ∧ b ≤ 256 ∧ ts.length = b ∧ Hid (∀ t ∈ ts, t.length ≤ 64) ∧ Hid (OwnR strC 1 w.heap.size 9 wr s4 ts) ∧ Hid (Below w.heap.size w wr)) (fun s5 _ _ => 256 - (intOf s5).toNat)
  case atStart => exact ⟨0, [], rfl, Nat.zero_le _, rfl, Lib.hid (fun t ht => by simp at ht), O0, B0⟩
  case round =>
    clear O0 B0
    obtain ⟨b, ts, rfl, hb, htl, HS, HO, HB⟩ := hrel
    by_cases hb6 : b < 256
    · have hw1 : IntKind.u8.wrap (b : Int) = (b : Int) := by rw [IntKind.wrap_u8]; omega
      have hown := OwnR.keep HO.out ((Below.refl wr.heap.size wr).alloc (Nat.le_refl _) (.cells #[.int .u8 b] 5)) (Nat.le_refl _)
      have hwB : w.heap.size ≤ (wr.alloc (.cells #[.int .u8 b] 5)).heap.size := by have := HB.out.size; rw [World.size_alloc]; omega
      repeat' (first | (with_reducible refine wp_conv_lit1 Tryd.underlying64 Tryd.underlying5 Tryd.underlying9 rfl _ rfl rfl ?_) | (at_builtin; go_loud (refine app_one 16 (wr.heap.size + 1) (by simp) [u8 b] strC_len (by intro y hy; simp [strC] at hy; subst hy; rfl) Tryd.underlying35 info_str13 rfl rfl _ _ rfl rfl rfl rfl hown hwB (by omega) (by unfold maxLen; omega) ?_); intro v4 w4 hown4 hb4 hk4 _) | go_values | go_skip | go_guarded | go_step | go_upon)
      go_roundw
      case rel => exact ⟨b + 1, ts ++ [[u8 b]], by go_num, by omega, by simp; omega, Lib.hid (short_snoc HS.out (by simp)), Lib.hid hown4, Lib.hid ((HB.out.alloc HB.out.size _).trans hb4)⟩
      case measure => simp [intOf]; omega
    · obtain rfl : b = 256 := by omega
      rw [show ((256 : Nat) : Int) = 256 from rfl]
      repeat' (first | go_values | go_skip | go_guarded | go_step | go_upon)
      have Htl := Lib.hid htl
      clear htl
      go_loopw [27, 4] (fun s27 s4 wr => ∃ (k : Nat) (ts : List (List UInt8)), s27 = .int .i64 k ∧ k ≤ n ∧ Hid (ts.length = 256 + k) ∧ Hid (∀ t ∈ ts, t.length ≤ 64) ∧ Hid (OwnR strC 1 w.heap.size 9 wr s4 ts) ∧ Hid (Below w.heap.size w wr)) (fun s27 _ _ => n - (intOf s27).toNat)
      case atStart => exact ⟨0, ts, rfl, Nat.zero_le _, Htl, HS, HO, HB⟩
      case round =>
        clear Htl HS HO HB
        obtain ⟨k, ts, rfl, hk, Htl, HS, HO, HB⟩ := hrel
        by_cases hkn : k < n
        · rcases hcell with h0 | ⟨b, off, rfl, hbB, hcell⟩
          · omega
          obtain ⟨c0, c1⟩ := mg_cells hcell k (by rw [← Hn.out]; exact hkn)
          clear hcell
          rw [← HB.out.cell (show b < w.heap.size from hbB)] at c0 c1
          generalize (l.getD k (0, 0)).1 = L at c0
          generalize (l.getD k (0, 0)).2 = R at c1
          by_cases hL0 : L < 0
          · repeat' (first | go_values | go_skip | go_guarded | go_step | go_upon)
            go_ret2
            exact ⟨⟨_, _, rfl⟩, HB.out.alloc HB.out.size _⟩
          by_cases hL1 : 255 + (k : Int) < L
          · have hL0' : 0 ≤ L := by omega
            repeat' (first | go_values | go_skip | go_guarded | go_step | go_upon)
            go_ret2
            exact ⟨⟨_, _, rfl⟩, HB.out.alloc HB.out.size _⟩
          by_cases hR0 : R < 0
          · have hL0' : 0 ≤ L := by omega
            have hL1' : L ≤ 255 + (k : Int) := by omega
            repeat' (first | go_values | go_skip | go_guarded | go_step | go_upon)
            go_ret2
            exact ⟨⟨_, _, rfl⟩, HB.out.alloc HB.out.size _⟩
          by_cases hR1 : 255 + (k : Int) < R
          · have hL0' : 0 ≤ L := by omega
            have hL1' : L ≤ 255 + (k : Int) := by omega
            have hR0' : 0 ≤ R := by omega
            repeat' (first | go_values | go_skip | go_guarded | go_step | go_upon)
            go_ret2
            exact ⟨⟨_, _, rfl⟩, HB.out.alloc HB.out.size _⟩
          obtain ⟨x, rfl⟩ : ∃ x : Nat, L = x := ⟨L.toNat, by omega⟩
          obtain ⟨y, rfl⟩ : ∃ y : Nat, R = y := ⟨R.toNat, by omega⟩
          have hx0 : (0 : Int) ≤ x := by omega
          have hy0 : (0 : Int) ≤ y := by omega
          have hx1 : (x : Int) ≤ 255 + (k : Int) := by omega
          have hy1 : (y : Int) ≤ 255 + (k : Int) := by omega
          clear hL0 hL1 hR0 hR1
          obtain ⟨m, hm⟩ : ∃ m, m = ts.length := ⟨_, rfl⟩
          have hmk : m = 256 + k := by rw [hm]; exact Htl.out
          obtain ⟨g4, c4, e4⟩ := HO.out.somewhere (by omega)
          subst e4
          rw [← hm] at HO ⊢
          have Hm := Lib.hid hm
          have hm1 : k + 255 < m := by omega
          have hm2 : m ≤ k + 256 := by omega
          clear hm hmk
          have hbx := (Below.refl wr.heap.size wr).alloc (Nat.le_refl _) (.cells #[.int .i64 x, .int .i64 y] 51)
          have HOx := Lib.hid (HO.out.keep hbx (Nat.le_refl _))
          have HBx := Lib.hid (HB.out.trans (hbx.mono HB.out.size))
          have hxm : x < m := by omega
          have hym : y < m := by omega
          repeat' (go_not_at_region 13; first | go_values | go_skip | go_guarded | go_step | go_upon)
          clear c0 c1
          have hc0 : (wr.alloc (.cells #[.int .i64 x, .int .i64 y] 51)).heap[wr.heap.size]? = some (.cells #[.int .i64 x, .int .i64 y] 51 (0, 0)) := Go.heap_alloc_new _ _
          clear hbx HO HB
          generalize wr.alloc (.cells #[.int .i64 x, .int .i64 y] 51) = wx at HOx HBx hc0 ⊢
          generalize wr.heap.size = gx at hc0 ⊢
          have hgl : gx < wx.heap.size := (Array.getElem?_eq_some_iff.1 hc0).1
          have q0 : ∀ nq : WB wx, nq.1.cell? ⟨gx, 0, none⟩ = some (.int .i64 x) := fun nq => (nq.2.cell hgl).trans (by rw [cell_of_row _ _ 0 _ _ _ hc0]; rfl)
          have q1 : ∀ nq : WB wx, nq.1.cell? ⟨gx, 1, none⟩ = some (.int .i64 y) := fun nq => (nq.2.cell hgl).trans (by rw [cell_of_row _ _ 1 _ _ _ hc0]; rfl)
          have q2 : ∀ nq : WB wx, nq.1.cell? ⟨g4, x, none⟩ = some (.string ⟨(ts.getD x []).toArray⟩) := fun nq => own_str (OwnR.keep HOx.out nq.2 (Nat.le_refl _)) x (by rw [← Hm.out]; exact hxm)
          have q3 : ∀ nq : WB wx, nq.1.cell? ⟨g4, y, none⟩ = some (.string ⟨(ts.getD y []).toArray⟩) := fun nq => own_str (OwnR.keep HOx.out nq.2 (Nat.le_refl _)) y (by rw [← Hm.out]; exact hym)
          have hl1 := getD_all (d := []) HS.out (k := x) (by rw [← Hm.out]; exact hxm)
          have hl2 := getD_all (d := []) HS.out (k := y) (by rw [← Hm.out]; exact hym)
          generalize ts.getD x [] = tx at q2 hl1
          generalize ts.getD y [] = ty at q3 hl2
          have hif : ¬ 9223372036854775807 < tx.length + ty.length := by omega
          have hcat := ba_cat13 tx ty
          have hl3 : (tx ++ ty).length ≤ 128 := by rw [List.length_append]; omega
          generalize tx ++ ty = tz at hcat hl3
          refine wp_region_anyC (by kernel_rfl) wx ?_
          refine wpAnyC_take (i := 0) (v := _) rfl (by kernel_rfl) (by kernel_rfl) (by kernel_rfl) (fun _ _ _ h => h) (Or.inl ⟨by rfl, fun w ⟨nq, hw⟩ => by (subst hw; go_simp <;> with_reducible rfl)⟩) (by go_simp <;> with_reducible rfl) ?_
          refine wpAnyC_take (i := 1) (v := _) rfl (by kernel_rfl) (by kernel_rfl) (by kernel_rfl) (fun _ _ _ h => h) (Or.inl ⟨by rfl, fun w ⟨nq, hw⟩ => by (subst hw; go_simp <;> with_reducible rfl)⟩) (by go_simp <;> with_reducible rfl) ?_
          refine wpAnyC_take (i := 2) (v := _) rfl (by kernel_rfl) (by kernel_rfl) (by kernel_rfl) (fun _ _ _ h => h) (Or.inl ⟨by rfl, fun w ⟨nq, hw⟩ => by (subst hw; go_simp <;> with_reducible rfl)⟩) (by go_simp <;> with_reducible rfl) ?_
          refine wpAnyC_take (i := 3) (v := _) rfl (by kernel_rfl) (by kernel_rfl) (by kernel_rfl) (fun _ _ _ h => h) (Or.inl ⟨by rfl, fun w ⟨nq, hw⟩ => by (subst hw; go_simp <;> with_reducible rfl)⟩) (by go_simp <;> with_reducible rfl) ?_
          refine wpAnyC_take (i := 4) (v := _) rfl (by kernel_rfl) (by kernel_rfl) (by kernel_rfl) (fun _ _ _ h => h) (Or.inl ⟨by rfl, fun w ⟨nq, hw⟩ => by (subst hw; go_simp <;> with_reducible rfl)⟩) (by go_simp <;> with_reducible rfl) ?_
          refine wpAnyC_take (i := 5) (v := _) rfl (by kernel_rfl) (by kernel_rfl) (by kernel_rfl) (fun _ _ _ h => h) (Or.inl ⟨by rfl, fun w ⟨nq, hw⟩ => by (subst hw; go_simp <;> with_reducible rfl)⟩) (by go_simp <;> with_reducible rfl) ?_
          refine wpAnyC_take (i := 6) (v := _) rfl (by kernel_rfl) (by kernel_rfl) (by kernel_rfl) (fun _ _ _ h => h) (Or.inl ⟨by rfl, fun w ⟨nq, hw⟩ => by (subst hw; go_simp <;> with_reducible rfl)⟩) (by go_simp <;> with_reducible rfl) ?_
          refine wpAnyC_take (i := 7) (v := _) rfl (by kernel_rfl) (by kernel_rfl) (by kernel_rfl) (fun _ _ _ h => h) (Or.inl ⟨by rfl, fun w ⟨nq, hw⟩ => by (subst hw; go_simp <;> with_reducible rfl)⟩) (by go_simp <;> with_reducible rfl) ?_
          refine wpAnyC_take (i := 8) (v := _) rfl (by kernel_rfl) (by kernel_rfl) (by kernel_rfl) (fun _ _ _ h => h) (Or.inl ⟨by rfl, fun w ⟨nq, hw⟩ => by (subst hw; go_simp <;> with_reducible rfl)⟩) (by go_simp <;> with_reducible rfl) ?_
          refine wpAnyC_take (i := 9) (v := _) rfl (by kernel_rfl) (by kernel_rfl) (by kernel_rfl) (fun _ _ _ h => h) (Or.inl ⟨by rfl, fun w ⟨nq, hw⟩ => by (subst hw; go_simp <;> with_reducible rfl)⟩) (by go_simp <;> with_reducible rfl) ?_
          refine wpAnyC_take (i := 10) (v := _) rfl (by kernel_rfl) (by kernel_rfl) (by kernel_rfl) (fun _ _ _ h => h) (Or.inl ⟨by rfl, fun w ⟨nq, hw⟩ => by (subst hw; go_simp <;> with_reducible rfl)⟩) (by go_simp <;> with_reducible rfl) ?_
          refine wpAnyC_take (i := 11) (v := _) rfl (by kernel_rfl) (by kernel_rfl) (by kernel_rfl) (fun _ _ _ h => h) (Or.inl ⟨by rfl, fun w ⟨nq, hw⟩ => by (subst hw; go_simp <;> with_reducible rfl)⟩) (by go_simp <;> with_reducible rfl) ?_
          refine genC13 (fun W => Below wx.heap.size wx W ∧ OwnR strC 1 w.heap.size 9 W (.slice (some ⟨g4, 0, none⟩) m c4) ts ∧ Below w.heap.size w W) ⟨(Below.refl _ _).drew, OwnR.keep HOx.out (Below.refl _ _).drew (Nat.le_refl _), HBx.out.trans ((Below.refl _ _).drew)⟩ ?_
          rintro wd ⟨hbd, hod, hwd⟩
          have HO := Lib.hid hod
          have HB := Lib.hid hwd
          refine wpAnyC_done (by kernel_rfl) (CW.of (hbd)) (by go_simp <;> with_reducible rfl) ?_
          clear hbd hod hwd HOx HBx
          clear q0 q1 q2 q3 hif hcat hl1 hl2 hc0 hgl
          by_cases hz : 64 < tz.length
          · have hz1 : (64 : Int) < tz.length := by omega
            repeat' (first | go_values | go_skip | go_guarded | go_step | go_upon)
            go_ret2
            exact ⟨⟨_, _, rfl⟩, HB.out⟩
          · have hz1 : (tz.length : Int) ≤ 64 := by omega
            repeat' (first | go_values | go_skip | go_guarded | go_step | go_upon)
            go_loopw [9] (fun s9 wr => ∃ q : Nat, s9 = .int .i64 q ∧ q ≤ m ∧ Hid (OwnR strC 1 w.heap.size 9 wr (.slice (some ⟨g4, 0, none⟩) m c4) ts) ∧ Hid (Below w.heap.size w wr)) (fun s9 _ => m - (intOf s9).toNat)
            case atStart => exact ⟨256, rfl, by omega, HO, HB⟩
            case round =>
              clear HO HB
              obtain ⟨q, rfl, hq, HO, HB⟩ := hrel
              by_cases hqm : q < m
              · have q9 := own_str HO.out q (by rw [← Hm.out]; exact hqm)
                generalize ts.getD q [] = tq at q9
                by_cases he : tq = tz
                · subst he
                  repeat' (first | go_values | go_skip | go_guarded | go_step | go_upon)
                  go_ret2
                  exact ⟨⟨_, _, rfl⟩, HB.out⟩
                · have heb : (tq == tz) = false := beq_false_of_ne he
                  repeat' (first | go_values | go_skip | go_guarded | go_step | go_upon)
                  go_roundw
                  case rel => exact ⟨q + 1, by go_num, by omega, HO, HB⟩
                  case measure => simp [intOf]; omega
              · obtain rfl : m = q := by omega
                have hown := HO.out
                have hwB := HB.out.size
                repeat' (first | (at_builtin; go_loud (refine app_one 16 wr.heap.size rfl tz strC_len (by intro y hy; simp [strC] at hy; subst hy; rfl) Tryd.underlying35 info_str13 rfl rfl _ _ rfl rfl rfl rfl hown hwB (by rw [← Hm.out]; omega) (by rw [← Hm.out]; unfold maxLen; omega) ?_); intro v4 w4 hown4 hb4 hk4 _) | go_values | go_skip | go_guarded | go_step | go_upon)
                go_roundw
                case rel => exact ⟨k + 1, ts ++ [tz], by go_num, by omega, Lib.hid (by rw [List.length_append, Htl.out]; rfl), Lib.hid (short_snoc HS.out (by omega)), Lib.hid hown4, Lib.hid (HB.out.trans hb4)⟩
                case measure => simp [intOf]; omega
        · obtain rfl : n = k := by omega
          repeat' (first | go_values | go_skip | go_guarded | go_step | go_upon)
          go_ret2
          exact ⟨⟨_, _, rfl⟩, HB.out⟩
end Go.Proofs.YtkdbdpcdggildaaDoor
namespace Go.Proofs.YtkdbdpcdggildaaDoor
open Go.RowKit
section
variable {k : Nat} {m : Int × Int} {ts : List (List UInt8)}
theorem txStep_idx (h : ¬ ((0 ≤ m.1 ∧ m.1 < 256 + k) ∧ (0 ≤ m.2 ∧ m.2 < 256 + k))) : txStep k m ts = none := by
  unfold txStep
  rw [if_neg (fun h' => h ⟨h'.1, h'.2.1⟩)]
theorem txStep_long (h : 64 < (ts.getD m.1.toNat [] ++ ts.getD m.2.toNat []).length) : txStep k m ts = none := by
  unfold txStep
  rw [if_neg (fun h' => by have := h'.2.2.1; omega)]
theorem txStep_dup (h : (ts.getD m.1.toNat [] ++ ts.getD m.2.toNat []) ∈ ts.drop 256) : txStep k m ts = none := by
  unfold txStep
  rw [if_neg (fun h' => h'.2.2.2 h)]
theorem txStep_ok (h : (0 ≤ m.1 ∧ m.1 < 256 + k) ∧ (0 ≤ m.2 ∧ m.2 < 256 + k)) (h2 : (ts.getD m.1.toNat [] ++ ts.getD m.2.toNat []).length ≤ 64) (h3 : (ts.getD m.1.toNat [] ++ ts.getD m.2.toNat []) ∉ ts.drop 256) :
    txStep k m ts = some (ts ++ [ts.getD m.1.toNat [] ++ ts.getD m.2.toNat []]) := by
  unfold txStep
  rw [if_pos ⟨h.1, h.2, h2, h3⟩]
end
theorem in_drop {ts : List (List UInt8)} {tz : List UInt8} {q : Nat} (h1 : 256 ≤ q) (h2 : q < ts.length) (h : ts.getD q [] = tz) : tz ∈ ts.drop 256 := by
  rw [List.getD_eq_getElem?_getD, List.getElem?_eq_getElem h2] at h
  refine List.mem_of_getElem? (i := q - 256) ?_
  rw [List.getElem?_drop, show 256 + (q - 256) = q by omega, List.getElem?_eq_getElem h2]
  exact congrArg some h
theorem notin_drop {ts : List (List UInt8)} {tz : List UInt8} (h : ∀ i, 256 ≤ i → i < ts.length → ts.getD i [] ≠ tz) : tz ∉ ts.drop 256 := fun hm => by
  obtain ⟨i, hi, he⟩ := List.getElem_of_mem hm
  rw [List.length_drop] at hi
  refine h (256 + i) (by omega) (by omega) ?_
  rw [List.getD_eq_getElem?_getD, List.getElem?_eq_getElem (by omega)]
  rw [List.getElem_drop] at he
  exact he
set_option maxRecDepth 100000 in
set_option maxHeartbeats 4000000 in
theorem ref_TextsE (v : Value) (l : List (Int × Int)) (w : World) (h : RowOf mgC 2 w v l) :
    Calls Tryd.prog 18 #[v] w fun e w' => (∃ u, e = .returned (.tuple #[u, .int .i64 (textsE l)]) ∧ (textsE l = 0 → ∃ ts, txTo l l.length = some ts ∧ RowOf strC 1 w' u ts ∧ ∀ t ∈ ts, t.length ≤ 64)) ∧ Below w.heap.size w w' := by
  obtain ⟨ad, cap, rfl, hcap, hmx, hcell⟩ := h.open mgC_len
  clear h
  obtain ⟨n, hn⟩ : ∃ n, n = l.length := ⟨_, rfl⟩
  have Hn := Lib.hid hn
  obtain ⟨R, hR⟩ : ∃ R, textsE l = R := ⟨_, rfl⟩
  have HR1 : Hid (1024 < n → R = 2) := Lib.hid fun h => by rw [← hR]; exact textsE_long (by rw [← hn]; exact h)
  have HR2 : Hid (¬ 1024 < n → ∀ k, k < n → ∀ ts, txTo l k = some ts → txStep k (l.getD k (0, 0)) ts = none → R = 130) := Lib.hid fun h k hk ts h1 h2 => by rw [← hR]; exact textsE_bad (by rw [← hn]; exact h) (by rw [← hn]; exact hk) h1 h2
  have HR3 : Hid (¬ 1024 < n → ∀ ts, txTo l n = some ts → R = 0) := Lib.hid fun h ts h1 => by rw [← hR]; exact textsE_ok (by rw [← hn]; exact h) (by rw [← hn]; exact h1)
  rw [hR]
  rw [← hn] at hcap hcell
  rw [← hn]
  clear hn hR
  unfold maxLen at hmx
  by_cases h1 : 1024 < n
  · have e := HR1.out h1
    subst e
    go_enter Tryd.func18, Tryd.ntmps18
    repeat' (first | go_values | go_skip | go_guarded | go_step | go_upon)
    go_ret2
    exact ⟨⟨_, rfl, fun h => absurd h (by decide)⟩, Below.refl _ _⟩
  have Hbad := Lib.hid (HR2.out h1)
  have Hok := Lib.hid (HR3.out h1)
  clear HR1 HR2 HR3
  go_enter Tryd.func18, Tryd.ntmps18
  repeat' (first | go_values | go_skip | go_guarded | go_step | go_upon)
  have O0 := Lib.hid (own_empty (f := strC) (sz := 1) (e := 9) w (Nat.le_refl _))
  have B0 := Lib.hid ((Below.refl w.heap.size w).alloc (Nat.le_refl _) (.cells #[] 9))
  generalize w.alloc (.cells #[] 9) = w0 at O0 B0 ⊢
  go_loopw [5, 4] (fun s5 s4 wr => ∃ (b : Nat) (ts : List (List UInt8)), s5 = .int .i64 b ∧ b ≤ 256 ∧ ts.length = b ∧ Hid (ts = (List.range b).map fun b => [u8 b]) ∧ Hid (∀ t ∈ ts, t.length ≤ 64) ∧ Hid (OwnR strC 1 w.heap.size 9 wr s4 ts) ∧ Hid (Below w.heap.size w wr)) (fun s5 _ _ => 256 - (intOf s5).toNat)
  case atStart => exact ⟨0, [], rfl, Nat.zero_le _, rfl, Lib.hid rfl, Lib.hid (fun t ht => by simp at ht), O0, B0⟩
  case round =>
    clear O0 B0
    obtain ⟨b, ts, rfl, hb, htl, HT, HS, HO, HB⟩ := hrel
    by_cases hb6 : b < 256
    · have hw1 : IntKind.u8.wrap (b : Int) = (b : Int) := by rw [IntKind.wrap_u8]; omega
      have hown := OwnR.keep HO.out ((Below.refl wr.heap.size wr).alloc (Nat.le_refl _) (.cells #[.int .u8 b] 5)) (Nat.le_refl _)
      have hwB : w.heap.size ≤ (wr.alloc (.cells #[.int .u8 b] 5)).heap.size := by have := HB.out.size; rw [World.size_alloc]; omega
      repeat' (first | (with_reducible refine wp_conv_lit1 Tryd.underlying64 Tryd.underlying5 Tryd.underlying9 rfl _ rfl rfl ?_) | (at_builtin; go_loud (refine app_one 16 (wr.heap.size + 1) (by simp) [u8 b] strC_len (by intro y hy; simp [strC] at hy; subst hy; rfl) Tryd.underlying35 info_str13 rfl rfl _ _ rfl rfl rfl rfl hown hwB (by omega) (by unfold maxLen; omega) ?_); intro v4 w4 hown4 hb4 hk4 _) | go_values | go_skip | go_guarded | go_step | go_upon)
      go_roundw
      case rel => exact ⟨b + 1, ts ++ [[u8 b]], by go_num, by omega, by simp; omega, Lib.hid (by rw [HT.out, List.range_succ, List.map_append]; rfl), Lib.hid (short_snoc HS.out (by simp)), Lib.hid hown4, Lib.hid ((HB.out.alloc HB.out.size _).trans hb4)⟩
      case measure => simp [intOf]; omega
    · obtain rfl : b = 256 := by omega
      rw [show ((256 : Nat) : Int) = 256 from rfl]
      repeat' (first | go_values | go_skip | go_guarded | go_step | go_upon)
      have Htl := Lib.hid htl
      have HT0 : Hid (txTo l 0 = some ts) := Lib.hid (by rw [HT.out]; rfl)
      clear htl HT
      go_loopw [27, 4] (fun s27 s4 wr => ∃ (k : Nat) (ts : List (List UInt8)), s27 = .int .i64 k ∧ k ≤ n ∧ Hid (ts.length = 256 + k) ∧ Hid (txTo l k = some ts) ∧ Hid (∀ t ∈ ts, t.length ≤ 64) ∧ Hid (OwnR strC 1 w.heap.size 9 wr s4 ts) ∧ Hid (Below w.heap.size w wr)) (fun s27 _ _ => n - (intOf s27).toNat)
      case atStart => exact ⟨0, ts, rfl, Nat.zero_le _, Htl, HT0, HS, HO, HB⟩
      case round =>
        clear Htl HS HO HB HT0
        obtain ⟨k, ts, rfl, hk, Htl, HT, HS, HO, HB⟩ := hrel
        by_cases hkn : k < n
        · rcases hcell with h0 | ⟨b, off, rfl, hbB, hcell⟩
          · omega
          obtain ⟨c0, c1⟩ := mg_cells hcell k (by rw [← Hn.out]; exact hkn)
          clear hcell
          rw [← HB.out.cell (show b < w.heap.size from hbB)] at c0 c1
          have Hb := Lib.hid (fun h => Hbad.out k hkn ts HT.out h)
          have Hnx : Hid (∀ s, txStep k (l.getD k (0, 0)) ts = some s → txTo l (k + 1) = some s) := Lib.hid fun s h => by rw [txTo, HT.out]; exact h
          generalize l.getD k (0, 0) = mm at c0 c1 Hb Hnx
          obtain ⟨L, Rt⟩ := mm
          dsimp only at c0 c1
          by_cases hL0 : L < 0
          · have e := Hb.out (txStep_idx (by dsimp only; omega))
            subst e
            repeat' (first | go_values | go_skip | go_guarded | go_step | go_upon)
            go_ret2
            exact ⟨⟨_, rfl, fun h => absurd h (by decide)⟩, HB.out.alloc HB.out.size _⟩
          by_cases hL1 : 255 + (k : Int) < L
          · have e := Hb.out (txStep_idx (by dsimp only; omega))
            subst e
            have hL0' : 0 ≤ L := by omega
            repeat' (first | go_values | go_skip | go_guarded | go_step | go_upon)
            go_ret2
            exact ⟨⟨_, rfl, fun h => absurd h (by decide)⟩, HB.out.alloc HB.out.size _⟩
          by_cases hR0 : Rt < 0
          · have e := Hb.out (txStep_idx (by dsimp only; omega))
            subst e
            have hL0' : 0 ≤ L := by omega
            have hL1' : L ≤ 255 + (k : Int) := by omega
            repeat' (first | go_values | go_skip | go_guarded | go_step | go_upon)
            go_ret2
            exact ⟨⟨_, rfl, fun h => absurd h (by decide)⟩, HB.out.alloc HB.out.size _⟩
          by_cases hR1 : 255 + (k : Int) < Rt
          · have e := Hb.out (txStep_idx (by dsimp only; omega))
            subst e
            have hL0' : 0 ≤ L := by omega
            have hL1' : L ≤ 255 + (k : Int) := by omega
            have hR0' : 0 ≤ Rt := by omega
            repeat' (first | go_values | go_skip | go_guarded | go_step | go_upon)
            go_ret2
            exact ⟨⟨_, rfl, fun h => absurd h (by decide)⟩, HB.out.alloc HB.out.size _⟩
          obtain ⟨x, rfl⟩ : ∃ x : Nat, L = x := ⟨L.toNat, by omega⟩
          obtain ⟨y, rfl⟩ : ∃ y : Nat, Rt = y := ⟨Rt.toNat, by omega⟩
          have hx0 : (0 : Int) ≤ x := by omega
          have hy0 : (0 : Int) ≤ y := by omega
          have hx1 : (x : Int) ≤ 255 + (k : Int) := by omega
          have hy1 : (y : Int) ≤ 255 + (k : Int) := by omega
          clear hL0 hL1 hR0 hR1
          obtain ⟨m, hm⟩ : ∃ m, m = ts.length := ⟨_, rfl⟩
          have hmk : m = 256 + k := by rw [hm]; exact Htl.out
          obtain ⟨g4, c4, e4⟩ := HO.out.somewhere (by omega)
          subst e4
          rw [← hm] at HO ⊢
          have Hm := Lib.hid hm
          have hm1 : k + 255 < m := by omega
          have hm2 : m ≤ k + 256 := by omega
          clear hm hmk
          have hbx := (Below.refl wr.heap.size wr).alloc (Nat.le_refl _) (.cells #[.int .i64 x, .int .i64 y] 51)
          have HOx := Lib.hid (HO.out.keep hbx (Nat.le_refl _))
          have HBx := Lib.hid (HB.out.trans (hbx.mono HB.out.size))
          have hxm : x < m := by omega
          have hym : y < m := by omega
          repeat' (go_not_at_region 13; first | go_values | go_skip | go_guarded | go_step | go_upon)
          clear c0 c1
          have hc0 : (wr.alloc (.cells #[.int .i64 x, .int .i64 y] 51)).heap[wr.heap.size]? = some (.cells #[.int .i64 x, .int .i64 y] 51 (0, 0)) := Go.heap_alloc_new _ _
          clear hbx HO HB
          generalize wr.alloc (.cells #[.int .i64 x, .int .i64 y] 51) = wx at HOx HBx hc0 ⊢
          generalize wr.heap.size = gx at hc0 ⊢
          have hgl : gx < wx.heap.size := (Array.getElem?_eq_some_iff.1 hc0).1
          have q0 : ∀ nq : WB wx, nq.1.cell? ⟨gx, 0, none⟩ = some (.int .i64 x) := fun nq => (nq.2.cell hgl).trans (by rw [cell_of_row _ _ 0 _ _ _ hc0]; rfl)
          have q1 : ∀ nq : WB wx, nq.1.cell? ⟨gx, 1, none⟩ = some (.int .i64 y) := fun nq => (nq.2.cell hgl).trans (by rw [cell_of_row _ _ 1 _ _ _ hc0]; rfl)
          have q2 : ∀ nq : WB wx, nq.1.cell? ⟨g4, x, none⟩ = some (.string ⟨(ts.getD x []).toArray⟩) := fun nq => own_str (OwnR.keep HOx.out nq.2 (Nat.le_refl _)) x (by rw [← Hm.out]; exact hxm)
          have q3 : ∀ nq : WB wx, nq.1.cell? ⟨g4, y, none⟩ = some (.string ⟨(ts.getD y []).toArray⟩) := fun nq => own_str (OwnR.keep HOx.out nq.2 (Nat.le_refl _)) y (by rw [← Hm.out]; exact hym)
          have hl1 := getD_all (d := []) HS.out (k := x) (by rw [← Hm.out]; exact hxm)
          have hl2 := getD_all (d := []) HS.out (k := y) (by rw [← Hm.out]; exact hym)
          obtain ⟨tx, htx⟩ : ∃ t, ts.getD x [] = t := ⟨_, rfl⟩
          obtain ⟨ty, hty⟩ : ∃ t, ts.getD y [] = t := ⟨_, rfl⟩
          rw [htx] at q2 hl1
          rw [hty] at q3 hl2
          have HGx := Lib.hid htx
          have HGy := Lib.hid hty
          clear htx hty
          have hif : ¬ 9223372036854775807 < tx.length + ty.length := by omega
          have hcat := ba_cat13 tx ty
          have hl3 : (tx ++ ty).length ≤ 128 := by rw [List.length_append]; omega
          have Hlong : Hid (64 < (tx ++ ty).length → R = 130) := Lib.hid fun h => Hb.out (by
            refine txStep_long ?_
            dsimp only
            rw [Int.toNat_natCast, Int.toNat_natCast, HGx.out, HGy.out]; exact h)
          have Hdup : Hid ((tx ++ ty) ∈ ts.drop 256 → R = 130) := Lib.hid fun h => Hb.out (by
            refine txStep_dup ?_
            dsimp only
            rw [Int.toNat_natCast, Int.toNat_natCast, HGx.out, HGy.out]; exact h)
          have Hgood : Hid (¬ 64 < (tx ++ ty).length → (tx ++ ty) ∉ ts.drop 256 → txTo l (k + 1) = some (ts ++ [tx ++ ty])) := Lib.hid fun h h' => Hnx.out _ (by
            have e := txStep_ok (k := k) (m := ((x : Int), (y : Int))) (ts := ts) (by dsimp only; omega) (by dsimp only; rw [Int.toNat_natCast, Int.toNat_natCast, HGx.out, HGy.out]; omega) (by dsimp only; rw [Int.toNat_natCast, Int.toNat_natCast, HGx.out, HGy.out]; exact h')
            dsimp only at e
            rw [Int.toNat_natCast, Int.toNat_natCast, HGx.out, HGy.out] at e
            exact e)
          clear Hb Hnx HGx HGy
          generalize tx ++ ty = tz at hcat hl3 Hlong Hdup Hgood
          refine wp_region_anyC (by kernel_rfl) wx ?_
          refine wpAnyC_take (i := 0) (v := _) rfl (by kernel_rfl) (by kernel_rfl) (by kernel_rfl) (fun _ _ _ h => h) (Or.inl ⟨by rfl, fun w ⟨nq, hw⟩ => by (subst hw; go_simp <;> with_reducible rfl)⟩) (by go_simp <;> with_reducible rfl) ?_
          refine wpAnyC_take (i := 1) (v := _) rfl (by kernel_rfl) (by kernel_rfl) (by kernel_rfl) (fun _ _ _ h => h) (Or.inl ⟨by rfl, fun w ⟨nq, hw⟩ => by (subst hw; go_simp <;> with_reducible rfl)⟩) (by go_simp <;> with_reducible rfl) ?_
          refine wpAnyC_take (i := 2) (v := _) rfl (by kernel_rfl) (by kernel_rfl) (by kernel_rfl) (fun _ _ _ h => h) (Or.inl ⟨by rfl, fun w ⟨nq, hw⟩ => by (subst hw; go_simp <;> with_reducible rfl)⟩) (by go_simp <;> with_reducible rfl) ?_
          refine wpAnyC_take (i := 3) (v := _) rfl (by kernel_rfl) (by kernel_rfl) (by kernel_rfl) (fun _ _ _ h => h) (Or.inl ⟨by rfl, fun w ⟨nq, hw⟩ => by (subst hw; go_simp <;> with_reducible rfl)⟩) (by go_simp <;> with_reducible rfl) ?_
          refine wpAnyC_take (i := 4) (v := _) rfl (by kernel_rfl) (by kernel_rfl) (by kernel_rfl) (fun _ _ _ h => h) (Or.inl ⟨by rfl, fun w ⟨nq, hw⟩ => by (subst hw; go_simp <;> with_reducible rfl)⟩) (by go_simp <;> with_reducible rfl) ?_
          refine wpAnyC_take (i := 5) (v := _) rfl (by kernel_rfl) (by kernel_rfl) (by kernel_rfl) (fun _ _ _ h => h) (Or.inl ⟨by rfl, fun w ⟨nq, hw⟩ => by (subst hw; go_simp <;> with_reducible rfl)⟩) (by go_simp <;> with_reducible rfl) ?_
          refine wpAnyC_take (i := 6) (v := _) rfl (by kernel_rfl) (by kernel_rfl) (by kernel_rfl) (fun _ _ _ h => h) (Or.inl ⟨by rfl, fun w ⟨nq, hw⟩ => by (subst hw; go_simp <;> with_reducible rfl)⟩) (by go_simp <;> with_reducible rfl) ?_
          refine wpAnyC_take (i := 7) (v := _) rfl (by kernel_rfl) (by kernel_rfl) (by kernel_rfl) (fun _ _ _ h => h) (Or.inl ⟨by rfl, fun w ⟨nq, hw⟩ => by (subst hw; go_simp <;> with_reducible rfl)⟩) (by go_simp <;> with_reducible rfl) ?_
          refine wpAnyC_take (i := 8) (v := _) rfl (by kernel_rfl) (by kernel_rfl) (by kernel_rfl) (fun _ _ _ h => h) (Or.inl ⟨by rfl, fun w ⟨nq, hw⟩ => by (subst hw; go_simp <;> with_reducible rfl)⟩) (by go_simp <;> with_reducible rfl) ?_
          refine wpAnyC_take (i := 9) (v := _) rfl (by kernel_rfl) (by kernel_rfl) (by kernel_rfl) (fun _ _ _ h => h) (Or.inl ⟨by rfl, fun w ⟨nq, hw⟩ => by (subst hw; go_simp <;> with_reducible rfl)⟩) (by go_simp <;> with_reducible rfl) ?_
          refine wpAnyC_take (i := 10) (v := _) rfl (by kernel_rfl) (by kernel_rfl) (by kernel_rfl) (fun _ _ _ h => h) (Or.inl ⟨by rfl, fun w ⟨nq, hw⟩ => by (subst hw; go_simp <;> with_reducible rfl)⟩) (by go_simp <;> with_reducible rfl) ?_
          refine wpAnyC_take (i := 11) (v := _) rfl (by kernel_rfl) (by kernel_rfl) (by kernel_rfl) (fun _ _ _ h => h) (Or.inl ⟨by rfl, fun w ⟨nq, hw⟩ => by (subst hw; go_simp <;> with_reducible rfl)⟩) (by go_simp <;> with_reducible rfl) ?_
          refine genC13 (fun W => Below wx.heap.size wx W ∧ OwnR strC 1 w.heap.size 9 W (.slice (some ⟨g4, 0, none⟩) m c4) ts ∧ Below w.heap.size w W) ⟨(Below.refl _ _).drew, OwnR.keep HOx.out (Below.refl _ _).drew (Nat.le_refl _), HBx.out.trans ((Below.refl _ _).drew)⟩ ?_
          rintro wd ⟨hbd, hod, hwd⟩
          have HO := Lib.hid hod
          have HB := Lib.hid hwd
          refine wpAnyC_done (by kernel_rfl) (CW.of (hbd)) (by go_simp <;> with_reducible rfl) ?_
          clear hbd hod hwd HOx HBx
          clear q0 q1 q2 q3 hif hcat hl1 hl2 hc0 hgl
          by_cases hz : 64 < tz.length
          · have hz1 : (64 : Int) < tz.length := by omega
            have e := Hlong.out hz
            subst e
            repeat' (first | go_values | go_skip | go_guarded | go_step | go_upon)
            go_ret2
            exact ⟨⟨_, rfl, fun h => absurd h (by decide)⟩, HB.out⟩
          · have hz1 : (tz.length : Int) ≤ 64 := by omega
            repeat' (first | go_values | go_skip | go_guarded | go_step | go_upon)
            go_loopw [9] (fun s9 wr => ∃ q : Nat, s9 = .int .i64 q ∧ 256 ≤ q ∧ q ≤ m ∧ Hid (∀ i, 256 ≤ i → i < q → ts.getD i [] ≠ tz) ∧ Hid (OwnR strC 1 w.heap.size 9 wr (.slice (some ⟨g4, 0, none⟩) m c4) ts) ∧ Hid (Below w.heap.size w wr)) (fun s9 _ => m - (intOf s9).toNat)
            case atStart => exact ⟨256, rfl, Nat.le_refl _, by omega, Lib.hid (fun i h1 h2 => by omega), HO, HB⟩
            case round =>
              clear HO HB
              obtain ⟨q, rfl, hq6, hq, HN, HO, HB⟩ := hrel
              by_cases hqm : q < m
              · have q9 := own_str HO.out q (by rw [← Hm.out]; exact hqm)
                have Hin : Hid (ts.getD q [] = tz → tz ∈ ts.drop 256) := Lib.hid fun h => in_drop hq6 (by rw [← Hm.out]; exact hqm) h
                have HN2 : Hid (ts.getD q [] ≠ tz → ∀ i, 256 ≤ i → i < q + 1 → ts.getD i [] ≠ tz) := Lib.hid fun h i h1 h2 => by
                  by_cases e : i = q
                  · rw [e]; exact h
                  · exact HN.out i h1 (by omega)
                clear HN
                generalize ts.getD q [] = tq at q9 Hin HN2
                by_cases he : tq = tz
                · have e := Hdup.out (Hin.out he)
                  subst e he
                  repeat' (first | go_values | go_skip | go_guarded | go_step | go_upon)
                  go_ret2
                  exact ⟨⟨_, rfl, fun h => absurd h (by decide)⟩, HB.out⟩
                · have heb : (tq == tz) = false := beq_false_of_ne he
                  have HN3 := Lib.hid (HN2.out he)
                  clear HN2 Hin
                  repeat' (first | go_values | go_skip | go_guarded | go_step | go_upon)
                  go_roundw
                  case rel => exact ⟨q + 1, by go_num, by omega, by omega, HN3, HO, HB⟩
                  case measure => simp [intOf]; omega
              · obtain rfl : m = q := by omega
                have HT2 := Lib.hid (Hgood.out hz (notin_drop fun i h1 h2 => HN.out i h1 (by rw [Hm.out]; exact h2)))
                clear HN Hgood Hdup Hlong
                have hown := HO.out
                have hwB := HB.out.size
                repeat' (first | (at_builtin; go_loud (refine app_one 16 wr.heap.size rfl tz strC_len (by intro y hy; simp [strC] at hy; subst hy; rfl) Tryd.underlying35 info_str13 rfl rfl _ _ rfl rfl rfl rfl hown hwB (by rw [← Hm.out]; omega) (by rw [← Hm.out]; unfold maxLen; omega) ?_); intro v4 w4 hown4 hb4 hk4 _) | go_values | go_skip | go_guarded | go_step | go_upon)
                go_roundw
                case rel => exact ⟨k + 1, ts ++ [tz], by go_num, by omega, Lib.hid (by rw [List.length_append, Htl.out]; rfl), HT2, Lib.hid (short_snoc HS.out (by omega)), Lib.hid hown4, Lib.hid (HB.out.trans hb4)⟩
                case measure => simp [intOf]; omega
        · obtain rfl : n = k := by omega
          have e := Hok.out ts HT.out
          subst e
          repeat' (first | go_values | go_skip | go_guarded | go_step | go_upon)
          go_ret2
          exact ⟨⟨_, rfl, fun _ => ⟨ts, HT.out, HO.out.row, HS.out⟩⟩, HB.out⟩
end Go.Proofs.YtkdbdpcdggildaaDoor
namespace Go.Proofs.YtkdbdpcdggildaaDoor
open Go.RowKit
theorem app_oneG {α : Type} {f : α → List Value} {sz B : Nat} {e : TypeId} {w : World} {v : Value} {l : List α} {P : Program} {ops : Array Oper} {rest : List Oper} {o : Oper} {a : Act} {Q : Exit → Act → World → Prop} {t : TypeId} {z : Value} {cs : Array Value} (bytes : Nat) (h : Nat) (hh : h = w.heap.size) (x : α) (hf : ∀ y, (f y).length = sz) (ho : ∀ u ∈ f x, u.oneCell' = true)
    (h1 : P.underlying t = some (.slice e)) (h2 : (P.info? e).map (fun i => (i.zero, i.size, i.bytes)) = some (some z, sz, bytes)) (hzs : z.cells.size = sz)
    (hg : o.guard = none) (s x' : Operand) (hop : o.op = Op.call { callee := Callee.builtin Builtin.append, args := #[s, x'], argTypes := #[t, t] })
    (hs : a.eval s = v) (hx : a.eval x' = .slice (some ⟨h, 0, none⟩) 1 1) (hcs : cs = (f x).toArray)
    (hown : OwnR f sz B e w v l) (hB : B ≤ w.heap.size) (hbig : (l.length + 1) * bytes ≤ 140737488355328) (hlen : l.length + 1 ≤ maxLen)
    (hK : ∀ v' w', OwnR f sz B e w' v' (l ++ [x]) → Below B w w' → (∀ g ob, w.heap[g]? = some ob → v.ownBlock ≠ some g → w'.heap[g]? = some ob) → wpList P ops Q rest (a.put o.dst v') w') :
    wpList P ops Q (o :: rest) a (w.alloc (.cells cs e)) := by
  subst hcs hh
  refine wp_append B sz bytes h1 (.inl h1) h2 hzs hg s x' hop hs 1 (f x) (by rw [hx]; exact lenOf_slice) ?_ (by rw [hf, Nat.one_mul]) ho (OwnC.alloc hown _) (by simp; omega) hbig hlen ?_
  · rw [hx]
    exact firstCells_at (by rw [hf, Nat.one_mul]) (fun j u hj => by
      rw [Addr.add_lit, Nat.zero_add, cell_of_row _ w.heap.size j _ e (0, 0) (Go.heap_alloc_new w _)]
      simpa using hj)
  · intro v' w1 hown' hgrow
    refine hK v' w1 ?_ ?_ ?_
    · unfold OwnR; simpa [List.flatMap_append] using hown'
    · exact ((Below.refl _ _).alloc hB _).grown hgrow (by simp; omega) (fun k hk => (OwnC.lt hown k hk).1)
    · intro g ob hgo hne
      have hlt := (Array.getElem?_eq_some_iff.1 hgo).1
      exact grown_obj hgrow (by rw [Go.heap_alloc_old w _ hlt]; exact hgo) hne
/-- a row's block is no map's -/
theorem own_no_map {α : Type} {f : α → List Value} {sz B : Nat} {e : TypeId} {w : World} {v : Value} {l : List α} (h : OwnR f sz B e w v l) {g : Nat} {es : Array MapEntry} {c : Nat} (hm : w.heap[g]? = some (.map es c)) : v.ownBlock ≠ some g := fun hv => by
  obtain ⟨cs, fz, h'⟩ := h.typed hv
  rw [hm] at h'; cases h'
theorem own_put {α : Type} {f : α → List Value} {sz B : Nat} {e : TypeId} {w : World} {v : Value} {l : List α} (h : OwnR f sz B e w v l) {g : Nat} {es : Array MapEntry} {c : Nat} (hm : w.heap[g]? = some (.map es c)) (o : Obj) : OwnR f sz B e (Go.ChangeMaps.setBlock w g o) v l :=
  OwnC.block h fun k hk => Go.ChangeMaps.heap_setBlock_other hm _ (fun e => own_no_map h hm (by rw [← e]; exact hk))
theorem own_room (w : World) (c : Nat) (hc : c ≤ 4096) : OwnR strC 1 w.heap.size 9 (w.alloc (.cells (madeCells #[.string ⟨#[]⟩] c) 9)) (.slice (some ⟨w.heap.size, 0, none⟩) 0 c) ([] : List (List UInt8)) :=
  ⟨by simp, .inr ⟨w.heap.size, c, _, (0, 0), rfl, Nat.le_refl _, Go.heap_alloc_new _ _, fun j _ h => by simp at h, Nat.zero_le _, by unfold maxLen; omega, by rw [size_madeCells, Nat.mul_one], by simp⟩⟩
set_option maxRecDepth 100000 in
set_option maxHeartbeats 4000000 in
theorem merge_Texts (v : Value) (l : List (Int × Int)) (w : World) (h : RowOf mgC 2 w v l) :
    Calls Tryd.prog 14 #[v] w fun e w' => (∃ u, e = .returned (.tuple #[u, .int .i64 (textsE l)]) ∧ (textsE l = 0 → ∃ ts, txTo l l.length = some ts ∧ RowOf strC 1 w' u ts ∧ ∀ t ∈ ts, t.length ≤ 64)) ∧ Below w.heap.size w w' := by
  obtain ⟨ad, cap, rfl, hcap, hmx, hcell⟩ := h.open mgC_len
  clear h
  obtain ⟨n, hn⟩ : ∃ n, n = l.length := ⟨_, rfl⟩
  have Hn := Lib.hid hn
  obtain ⟨R, hR⟩ : ∃ R, textsE l = R := ⟨_, rfl⟩
  have HR1 : Hid (1024 < n → R = 2) := Lib.hid fun h => by rw [← hR]; exact textsE_long (by rw [← hn]; exact h)
  have HR2 : Hid (¬ 1024 < n → ∀ k, k < n → ∀ ts, txTo l k = some ts → txStep k (l.getD k (0, 0)) ts = none → R = 130) := Lib.hid fun h k hk ts h1 h2 => by rw [← hR]; exact textsE_bad (by rw [← hn]; exact h) (by rw [← hn]; exact hk) h1 h2
  have HR3 : Hid (¬ 1024 < n → ∀ ts, txTo l n = some ts → R = 0) := Lib.hid fun h ts h1 => by rw [← hR]; exact textsE_ok (by rw [← hn]; exact h) (by rw [← hn]; exact h1)
  rw [hR]
  rw [← hn] at hcap hcell
  rw [← hn]
  clear hn hR
  unfold maxLen at hmx
  by_cases h1 : 1024 < n
  · have e := HR1.out h1
    subst e
    go_enter Tryd.func14, Tryd.ntmps14
    repeat' (first | go_values | go_skip | go_guarded | go_step | go_upon)
    go_ret2
    exact ⟨⟨_, rfl, fun h => absurd h (by decide)⟩, Below.refl _ _⟩
  have Hbad := Lib.hid (HR2.out h1)
  have Hok := Lib.hid (HR3.out h1)
  clear HR1 HR2 HR3
  have hmk : ∀ w', (Instr.makeSlice 35 (.int .i64 0) (.int .i64 (256 + (n : Int)))).run Tryd.prog w' = .ok (.slice (some ⟨w'.heap.size, 0, none⟩) 0 (256 + n)) (w'.alloc (.cells (madeCells #[.string ⟨#[]⟩] (256 + n)) 9)) := fun w' => by
    have h := Go.run_make_room (P := Tryd.prog) 35 9 (.string ⟨#[]⟩) 16 Tryd.underlying35 info_str13 rfl .i64 .i64 (256 + n) (by omega) (by omega) w'
    rw [Int.natCast_add] at h
    exact h
  have hmm := @run_makeMap Tryd.prog
  go_enter Tryd.func14, Tryd.ntmps14
  repeat' (first | go_values | go_skip | go_guarded | go_step | go_upon)
  clear hmk
  have O0 := Lib.hid (own_room w (256 + n) (by omega))
  have B0 := Lib.hid ((Below.refl w.heap.size w).alloc (Nat.le_refl _) (.cells (madeCells #[.string ⟨#[]⟩] (256 + n)) 9))
  generalize w.alloc (.cells (madeCells #[.string ⟨#[]⟩] (256 + n)) 9) = w0 at O0 B0 ⊢
  generalize (Value.slice (some ⟨w.heap.size, 0, none⟩) 0 (256 + n)) = v0 at O0 ⊢
  go_loopg [19, 4] 256 (fun gk s19 s4 wr => ∃ (b : Nat) (ts : List (List UInt8)), s19 = .int .i64 b ∧ b + gk = 256 ∧ ts.length = b ∧ Hid (ts = (List.range b).map fun b => [u8 b]) ∧ Hid (∀ t ∈ ts, t.length ≤ 64) ∧ Hid (OwnR strC 1 w.heap.size 9 wr s4 ts) ∧ Hid (Below w.heap.size w wr))
  case atStart => exact ⟨0, [], rfl, rfl, rfl, Lib.hid rfl, Lib.hid (fun t ht => by simp at ht), O0, B0⟩
  case round =>
    clear O0 B0
    obtain ⟨b, ts, rfl, hb, htl, HT, HS, HO, HB⟩ := hrel
    by_cases hb6 : b < 256
    · have hw1 : IntKind.u8.wrap (b : Int) = (b : Int) := by rw [IntKind.wrap_u8]; omega
      have hown := OwnR.keep HO.out ((Below.refl wr.heap.size wr).alloc (Nat.le_refl _) (.cells #[.int .u8 b] 5)) (Nat.le_refl _)
      have hwB : w.heap.size ≤ (wr.alloc (.cells #[.int .u8 b] 5)).heap.size := by have := HB.out.size; rw [World.size_alloc]; omega
      repeat' (first | (with_reducible refine wp_conv_lit1 Tryd.underlying64 Tryd.underlying5 Tryd.underlying9 rfl _ rfl rfl ?_) | (at_builtin; go_loud (refine app_oneG 16 (wr.heap.size + 1) (by simp) [u8 b] strC_len (by intro y hy; simp [strC] at hy; subst hy; rfl) Tryd.underlying35 info_str13 rfl rfl _ _ rfl rfl rfl rfl hown hwB (by omega) (by unfold maxLen; omega) ?_); intro v4 w4 hown4 hb4 _) | go_values | go_skip | go_guarded | go_step | go_upon)
      go_roundg (gk - 1)
      case rel => exact ⟨b + 1, ts ++ [[u8 b]], by go_num, by omega, by simp; omega, Lib.hid (by rw [HT.out, List.range_succ, List.map_append]; rfl), Lib.hid (short_snoc HS.out (by simp)), Lib.hid hown4, Lib.hid ((HB.out.alloc HB.out.size _).trans hb4)⟩
      case measure => omega
    · obtain rfl : b = 256 := by omega
      rw [show ((256 : Nat) : Int) = 256 from rfl]
      repeat' (first | go_values | go_skip | go_guarded | go_step | go_upon)
      clear hmm
      have HM : Hid (SetS (wr.alloc (.map #[] 0)) wr.heap.size (ts.drop 256)) := Lib.hid (by rw [List.drop_eq_nil_of_le (by omega)]; exact MapAt.new wr)
      have HB2 : Hid (Below w.heap.size w (wr.alloc (.map #[] 0))) := Lib.hid (HB.out.alloc HB.out.size _)
      have HO2 := Lib.hid (OwnR.keep HO.out ((Below.refl wr.heap.size wr).alloc (Nat.le_refl _) (.map #[] 0)) (Nat.le_refl _))
      have hgm : w.heap.size ≤ wr.heap.size := HB.out.size
      have Htl := Lib.hid htl
      have HT0 : Hid (txTo l 0 = some ts) := Lib.hid (by rw [HT.out]; rfl)
      clear HB HO HT htl
      generalize wr.alloc (.map #[] 0) = wm at HM HB2 HO2 ⊢
      generalize wr.heap.size = gm at HM hgm ⊢
      have hzu := zero_unitS
      go_loopg [33, 4] n (fun gk s33 s4 wr => ∃ (k : Nat) (ts : List (List UInt8)), s33 = .int .i64 k ∧ k + gk = n ∧ Hid (ts.length = 256 + k) ∧ Hid (txTo l k = some ts) ∧ Hid (∀ t ∈ ts, t.length ≤ 64) ∧ Hid (OwnR strC 1 w.heap.size 9 wr s4 ts) ∧ Hid (SetS wr gm (ts.drop 256)) ∧ Hid (Below w.heap.size w wr))
      case atStart => exact ⟨0, ts, rfl, by omega, Htl, HT0, HS, HO2, HM, HB2⟩
      case round =>
        clear Htl HS HO2 HB2 HT0 HM
        obtain ⟨k, ts, rfl, hk, Htl, HT, HS, HO, HM, HB⟩ := hrel
        by_cases hkn : k < n
        · rcases hcell with h0 | ⟨b, off, rfl, hbB, hcell⟩
          · omega
          obtain ⟨c0, c1⟩ := mg_cells hcell k (by rw [← Hn.out]; exact hkn)
          clear hcell
          rw [← HB.out.cell (show b < w.heap.size from hbB)] at c0 c1
          have Hb := Lib.hid (fun h => Hbad.out k hkn ts HT.out h)
          have Hnx : Hid (∀ s, txStep k (l.getD k (0, 0)) ts = some s → txTo l (k + 1) = some s) := Lib.hid fun s h => by rw [txTo, HT.out]; exact h
          generalize l.getD k (0, 0) = mm at c0 c1 Hb Hnx
          obtain ⟨L, Rt⟩ := mm
          dsimp only at c0 c1
          have hkn' : (k : Int) < n := by omega
          by_cases hL0 : L < 0
          · have e := Hb.out (txStep_idx (by dsimp only; omega))
            subst e
            repeat' (first | go_values | go_skip | go_guarded | go_step | go_upon)
            go_ret2
            exact ⟨⟨_, rfl, fun h => absurd h (by decide)⟩, HB.out.alloc HB.out.size _⟩
          by_cases hL1 : 256 + (k : Int) ≤ L
          · have e := Hb.out (txStep_idx (by dsimp only; omega))
            subst e
            repeat' (first | go_values | go_skip | go_guarded | go_step | go_upon)
            go_ret2
            exact ⟨⟨_, rfl, fun h => absurd h (by decide)⟩, HB.out.alloc HB.out.size _⟩
          by_cases hR0 : Rt < 0
          · have e := Hb.out (txStep_idx (by dsimp only; omega))
            subst e
            repeat' (first | go_values | go_skip | go_guarded | go_step | go_upon)
            go_ret2
            exact ⟨⟨_, rfl, fun h => absurd h (by decide)⟩, HB.out.alloc HB.out.size _⟩
          by_cases hR1 : 256 + (k : Int) ≤ Rt
          · have e := Hb.out (txStep_idx (by dsimp only; omega))
            subst e
            repeat' (first | go_values | go_skip | go_guarded | go_step | go_upon)
            go_ret2
            exact ⟨⟨_, rfl, fun h => absurd h (by decide)⟩, HB.out.alloc HB.out.size _⟩
          obtain ⟨x, rfl⟩ : ∃ x : Nat, L = x := ⟨L.toNat, by omega⟩
          obtain ⟨y, rfl⟩ : ∃ y : Nat, Rt = y := ⟨Rt.toNat, by omega⟩
          obtain ⟨m, hm⟩ : ∃ m, m = ts.length := ⟨_, rfl⟩
          have hmk : m = 256 + k := by rw [hm]; exact Htl.out
          obtain ⟨g4, c4, e4⟩ := HO.out.somewhere (by omega)
          subst e4
          rw [← hm] at HO ⊢
          have Hm := Lib.hid hm
          have hbx := (Below.refl wr.heap.size wr).alloc (Nat.le_refl _) (.cells #[.int .i64 x, .int .i64 y] 51)
          have HOx := Lib.hid (HO.out.keep hbx (Nat.le_refl _))
          have HMx := Lib.hid (HM.out.keep hbx)
          have HBx := Lib.hid (HB.out.trans (hbx.mono HB.out.size))
          have hxm : x < m := by omega
          have hym : y < m := by omega
          have hm1 : m ≤ k + 256 := by omega
          clear hm hmk
          repeat' (go_not_at_region 15; first | go_values | go_skip | go_guarded | go_step | go_upon)
          clear c0 c1
          have hc0 : (wr.alloc (.cells #[.int .i64 x, .int .i64 y] 51)).heap[wr.heap.size]? = some (.cells #[.int .i64 x, .int .i64 y] 51 (0, 0)) := Go.heap_alloc_new _ _
          clear hbx HO HB HM
          generalize wr.alloc (.cells #[.int .i64 x, .int .i64 y] 51) = wx at HOx HBx HMx hc0 ⊢
          generalize wr.heap.size = gx at hc0 ⊢
          have hgl : gx < wx.heap.size := (Array.getElem?_eq_some_iff.1 hc0).1
          have q0 : ∀ nq : WB wx, nq.1.cell? ⟨gx, 0, none⟩ = some (.int .i64 x) := fun nq => (nq.2.cell hgl).trans (by rw [cell_of_row _ _ 0 _ _ _ hc0]; rfl)
          have q1 : ∀ nq : WB wx, nq.1.cell? ⟨gx, 1, none⟩ = some (.int .i64 y) := fun nq => (nq.2.cell hgl).trans (by rw [cell_of_row _ _ 1 _ _ _ hc0]; rfl)
          have q2 : ∀ nq : WB wx, nq.1.cell? ⟨g4, x, none⟩ = some (.string ⟨(ts.getD x []).toArray⟩) := fun nq => own_str (OwnR.keep HOx.out nq.2 (Nat.le_refl _)) x (by rw [← Hm.out]; exact hxm)
          have q3 : ∀ nq : WB wx, nq.1.cell? ⟨g4, y, none⟩ = some (.string ⟨(ts.getD y []).toArray⟩) := fun nq => own_str (OwnR.keep HOx.out nq.2 (Nat.le_refl _)) y (by rw [← Hm.out]; exact hym)
          have hl1 := getD_all (d := []) HS.out (k := x) (by rw [← Hm.out]; exact hxm)
          have hl2 := getD_all (d := []) HS.out (k := y) (by rw [← Hm.out]; exact hym)
          obtain ⟨tx, htx⟩ : ∃ t, ts.getD x [] = t := ⟨_, rfl⟩
          obtain ⟨ty, hty⟩ : ∃ t, ts.getD y [] = t := ⟨_, rfl⟩
          rw [htx] at q2 hl1
          rw [hty] at q3 hl2
          have HGx := Lib.hid htx
          have HGy := Lib.hid hty
          clear htx hty
          have hif : ¬ 9223372036854775807 < tx.length + ty.length := by omega
          have hcat := ba_cat13 tx ty
          have hl3 : (tx ++ ty).length ≤ 128 := by rw [List.length_append]; omega
          have Hlong : Hid (64 < (tx ++ ty).length → R = 130) := Lib.hid fun h => Hb.out (by
            refine txStep_long ?_
            dsimp only
            rw [Int.toNat_natCast, Int.toNat_natCast, HGx.out, HGy.out]; exact h)
          have Hdup : Hid ((tx ++ ty) ∈ ts.drop 256 → R = 130) := Lib.hid fun h => Hb.out (by
            refine txStep_dup ?_
            dsimp only
            rw [Int.toNat_natCast, Int.toNat_natCast, HGx.out, HGy.out]; exact h)
          have Hgood : Hid (¬ 64 < (tx ++ ty).length → (tx ++ ty) ∉ ts.drop 256 → txTo l (k + 1) = some (ts ++ [tx ++ ty])) := Lib.hid fun h h' => Hnx.out _ (by
            have e := txStep_ok (k := k) (m := ((x : Int), (y : Int))) (ts := ts) (by dsimp only; omega) (by dsimp only; rw [Int.toNat_natCast, Int.toNat_natCast, HGx.out, HGy.out]; omega) (by dsimp only; rw [Int.toNat_natCast, Int.toNat_natCast, HGx.out, HGy.out]; exact h')
            dsimp only at e
            rw [Int.toNat_natCast, Int.toNat_natCast, HGx.out, HGy.out] at e
            exact e)
          clear Hb Hnx HGx HGy
          generalize tx ++ ty = tz at hcat hl3 Hlong Hdup Hgood
          refine wp_region_anyC (by kernel_rfl) wx ?_
          refine wpAnyC_take (i := 0) (v := _) rfl (by kernel_rfl) (by kernel_rfl) (by kernel_rfl) (fun _ _ _ h => h) (Or.inl ⟨by rfl, fun w ⟨nq, hw⟩ => by (subst hw; go_simp <;> with_reducible rfl)⟩) (by go_simp <;> with_reducible rfl) ?_
          refine wpAnyC_take (i := 1) (v := _) rfl (by kernel_rfl) (by kernel_rfl) (by kernel_rfl) (fun _ _ _ h => h) (Or.inl ⟨by rfl, fun w ⟨nq, hw⟩ => by (subst hw; go_simp <;> with_reducible rfl)⟩) (by go_simp <;> with_reducible rfl) ?_
          refine wpAnyC_take (i := 2) (v := _) rfl (by kernel_rfl) (by kernel_rfl) (by kernel_rfl) (fun _ _ _ h => h) (Or.inl ⟨by rfl, fun w ⟨nq, hw⟩ => by (subst hw; go_simp <;> with_reducible rfl)⟩) (by go_simp <;> with_reducible rfl) ?_
          refine wpAnyC_take (i := 3) (v := _) rfl (by kernel_rfl) (by kernel_rfl) (by kernel_rfl) (fun _ _ _ h => h) (Or.inl ⟨by rfl, fun w ⟨nq, hw⟩ => by (subst hw; go_simp <;> with_reducible rfl)⟩) (by go_simp <;> with_reducible rfl) ?_
          refine wpAnyC_take (i := 4) (v := _) rfl (by kernel_rfl) (by kernel_rfl) (by kernel_rfl) (fun _ _ _ h => h) (Or.inl ⟨by rfl, fun w ⟨nq, hw⟩ => by (subst hw; go_simp <;> with_reducible rfl)⟩) (by go_simp <;> with_reducible rfl) ?_
          refine wpAnyC_take (i := 5) (v := _) rfl (by kernel_rfl) (by kernel_rfl) (by kernel_rfl) (fun _ _ _ h => h) (Or.inl ⟨by rfl, fun w ⟨nq, hw⟩ => by (subst hw; go_simp <;> with_reducible rfl)⟩) (by go_simp <;> with_reducible rfl) ?_
          refine wpAnyC_take (i := 6) (v := _) rfl (by kernel_rfl) (by kernel_rfl) (by kernel_rfl) (fun _ _ _ h => h) (Or.inl ⟨by rfl, fun w ⟨nq, hw⟩ => by (subst hw; go_simp <;> with_reducible rfl)⟩) (by go_simp <;> with_reducible rfl) ?_
          refine wpAnyC_take (i := 7) (v := _) rfl (by kernel_rfl) (by kernel_rfl) (by kernel_rfl) (fun _ _ _ h => h) (Or.inl ⟨by rfl, fun w ⟨nq, hw⟩ => by (subst hw; go_simp <;> with_reducible rfl)⟩) (by go_simp <;> with_reducible rfl) ?_
          refine wpAnyC_take (i := 8) (v := _) rfl (by kernel_rfl) (by kernel_rfl) (by kernel_rfl) (fun _ _ _ h => h) (Or.inl ⟨by rfl, fun w ⟨nq, hw⟩ => by (subst hw; go_simp <;> with_reducible rfl)⟩) (by go_simp <;> with_reducible rfl) ?_
          refine wpAnyC_take (i := 9) (v := _) rfl (by kernel_rfl) (by kernel_rfl) (by kernel_rfl) (fun _ _ _ h => h) (Or.inl ⟨by rfl, fun w ⟨nq, hw⟩ => by (subst hw; go_simp <;> with_reducible rfl)⟩) (by go_simp <;> with_reducible rfl) ?_
          refine wpAnyC_take (i := 10) (v := _) rfl (by kernel_rfl) (by kernel_rfl) (by kernel_rfl) (fun _ _ _ h => h) (Or.inl ⟨by rfl, fun w ⟨nq, hw⟩ => by (subst hw; go_simp <;> with_reducible rfl)⟩) (by go_simp <;> with_reducible rfl) ?_
          refine wpAnyC_take (i := 11) (v := _) rfl (by kernel_rfl) (by kernel_rfl) (by kernel_rfl) (fun _ _ _ h => h) (Or.inl ⟨by rfl, fun w ⟨nq, hw⟩ => by (subst hw; go_simp <;> with_reducible rfl)⟩) (by go_simp <;> with_reducible rfl) ?_
          refine genC13 (fun W => Below wx.heap.size wx W ∧ OwnR strC 1 w.heap.size 9 W (.slice (some ⟨g4, 0, none⟩) m c4) ts ∧ SetS W gm (ts.drop 256) ∧ Below w.heap.size w W) ⟨(Below.refl _ _).drew, OwnR.keep HOx.out (Below.refl _ _).drew (Nat.le_refl _), HMx.out.keep (Below.refl _ _).drew, HBx.out.trans ((Below.refl _ _).drew)⟩ ?_
          rintro wd ⟨hbd, hod, hmd, hwd⟩
          have HO := Lib.hid hod
          have HM := Lib.hid hmd
          have HB := Lib.hid hwd
          refine wpAnyC_done (by kernel_rfl) (CW.of (hbd)) (by go_simp <;> with_reducible rfl) ?_
          clear hbd hod hwd hmd HOx HBx HMx
          clear q0 q1 q2 q3 hif hcat hl1 hl2 hc0 hgl hL0 hL1 hR0 hR1 hxm hym
          have hbu := (Below.refl wd.heap.size wd).alloc (Nat.le_refl _) (.cells #[] 66)
          have HMu := Lib.hid (HM.out.keep hbu)
          have HOu := Lib.hid (OwnR.keep HO.out hbu (Nat.le_refl _))
          have HBu := Lib.hid (HB.out.trans (hbu.mono HB.out.size))
          have hlook := run_lookS (k := 9) Tryd.underlying9 Tryd.underlying65 zero_unitS tz HM.out
          cases hfi : findIn tz 0 (ts.drop 256) with
          | some j =>
            have e := Hdup.out (by
              by_cases h : tz ∈ ts.drop 256
              · exact h
              · rw [findIn_none.2 h] at hfi; cases hfi)
            subst e
            rw [hfi] at hlook
            dsimp only [Option.map_some, Option.getD_some, Option.isSome_some, nilV] at hlook
            clear hfi Hlong Hdup Hgood hbu HMu HOu HM HO HB
            repeat' (first | go_values | go_skip | go_guarded | go_step | go_upon)
            go_ret2
            exact ⟨⟨_, rfl, fun h => absurd h (by decide)⟩, HBu.out⟩
          | none =>
            have hnm : tz ∉ ts.drop 256 := findIn_none.1 hfi
            have hput := run_putS (k := 9) Tryd.underlying9 Tryd.underlying65 tz HMu.out hfi
            rw [hfi] at hlook
            dsimp only [Option.map_none, Option.getD_none, Option.isSome_none] at hlook
            by_cases hz : 64 < tz.length
            · have e := Hlong.out hz
              subst e
              have hz1 : (64 : Int) < tz.length := by omega
              clear hput hfi Hlong Hdup Hgood hbu HMu HOu HM HO HB hnm
              repeat' (first | go_values | go_skip | go_guarded | go_step | go_upon)
              go_ret2
              exact ⟨⟨_, rfl, fun h => absurd h (by decide)⟩, HBu.out⟩
            · have hz1 : ¬ (64 : Int) < tz.length := by omega
              have HT2 := Lib.hid (Hgood.out hz hnm)
              have HP := HMu.out.put tz
              have HOp := own_put HOu.out HMu.out (.map (entsFrom encS nilV 0 (ts.drop 256 ++ [tz])).toArray ((ts.drop 256).length + 1))
              have HBp := below_block HBu.out hgm ⟨_, _, HMu.out⟩ (o := .map (entsFrom encS nilV 0 (ts.drop 256 ++ [tz])).toArray ((ts.drop 256).length + 1))
              obtain ⟨wp, hwp⟩ : ∃ wp, wp = Go.ChangeMaps.setBlock (wd.alloc (.cells #[] 66)) gm (.map (entsFrom encS nilV 0 (ts.drop 256 ++ [tz])).toArray ((ts.drop 256).length + 1)) := ⟨_, rfl⟩
              rw [← hwp] at hput HP HOp HBp
              dsimp only [nilV] at hput
              have hne := own_no_map HOp HP
              have hwB : w.heap.size ≤ wp.heap.size := HBp.size
              have HPh := Lib.hid HP
              have HBph := Lib.hid HBp
              have Hdr : Hid ((ts ++ [tz]).drop 256 = ts.drop 256 ++ [tz]) := Lib.hid (by rw [List.drop_append_of_le_length (by have := Htl.out; omega)])
              clear hwp hfi Hlong Hdup Hgood hbu HMu HOu HM HO HB hnm HP HBp HBu
              repeat' (first | (at_builtin; go_loud (refine app_oneG 16 wp.heap.size rfl tz strC_len (by intro y hy; simp [strC] at hy; subst hy; rfl) Tryd.underlying35 info_str13 rfl rfl _ _ rfl rfl rfl rfl HOp hwB (by rw [← Hm.out]; omega) (by rw [← Hm.out]; unfold maxLen; omega) ?_); intro v4 w4 hown4 hb4 hk4) | go_values | go_skip | go_guarded | go_step | go_upon)
              go_roundg (gk - 1)
              case rel => exact ⟨k + 1, ts ++ [tz], by go_num, by omega, Lib.hid (by rw [List.length_append, Htl.out]; rfl), HT2, Lib.hid (short_snoc HS.out (by omega)), Lib.hid hown4, Lib.hid (by rw [Hdr.out]; exact hk4 gm _ HPh.out hne), Lib.hid (HBph.out.trans hb4)⟩
              case measure => omega
        · obtain rfl : n = k := by omega
          have e := Hok.out ts HT.out
          subst e
          repeat' (first | go_values | go_skip | go_guarded | go_step | go_upon)
          go_ret2
          exact ⟨⟨_, rfl, fun _ => ⟨ts, HT.out, HO.out.row, HS.out⟩⟩, HB.out⟩
theorem merge_Right (v : Value) (l : List (Int × Int)) (w : World) (h : RowOf mgC 2 w v l) :
    Calls Tryd.prog 31 #[v] w fun e w' => e = .returned (.int .i64 (textsE l)) ∧ Below w.heap.size w w' := by
  have HC := Lib.hid (merge_Texts v l w h)
  generalize textsE l = R at HC ⊢
  obtain ⟨ad, cap, rfl, _⟩ := h.open mgC_len
  clear h
  go_enter Tryd.func31, Tryd.ntmps31
  repeat' (first | go_values | go_skip | go_guarded | go_step | go_upon)
  refine Calls.mono (HC.out) ?_
  rintro _ w1 ⟨⟨u, rfl, _⟩, hb⟩
  dsimp only
  repeat' (first | go_values | go_skip | go_guarded | go_step | go_upon)
  go_ret
  exact ⟨rfl, hb⟩
end Go.Proofs.YtkdbdpcdggildaaDoor
namespace Go.Proofs.YtkdbdpcdggildaaDoor
open Go.RowKit Go.Lib
theorem strC_len17 (l : List UInt8) : (strC l).length = 1 := rfl
theorem intC_len17 (x : Int) : (intC x).length = 1 := rfl
theorem str_cell {w : World} {b off : Nat} {l : List (List UInt8)} (h : ∀ (i : Nat) (x : List UInt8) (j : Nat), l[i]? = some x → j < 1 → w.cell? ⟨b, off + (i * 1 + j), none⟩ = (strC x)[j]?) {k : Nat} {x : List UInt8} (hx : l[k]? = some x) : w.cell? ⟨b, off + k, none⟩ = some (.string ⟨x.toArray⟩) := by
  have := h k x 0 hx (by decide)
  rw [Nat.mul_one, Nat.add_zero] at this
  exact this
theorem int_cell {w : World} {b off : Nat} {l : List Int} (h : ∀ (i : Nat) (x : Int) (j : Nat), l[i]? = some x → j < 1 → w.cell? ⟨b, off + (i * 1 + j), none⟩ = (intC x)[j]?) {k : Nat} {x : Int} (hx : l[k]? = some x) : w.cell? ⟨b, off + k, none⟩ = some (.int .i64 x) := by
  have := h k x 0 hx (by decide)
  rw [Nat.mul_one, Nat.add_zero] at this
  exact this
/-- the first so many of a row -/
theorem RowOf.pre {α : Type} {f : α → List Value} {sz : Nat} {w : World} {a : Option Addr} {n cap : Nat} {l : List α} (hf : ∀ x, (f x).length = sz) (h : RowOf f sz w (.slice a n cap) l) {k : Nat} (hk : k ≤ l.length) : RowOf f sz w (.slice a k cap) (l.take k) := by
  obtain ⟨a', cap', he, h1, h2, h3, h4⟩ := h
  simp only [Value.slice.injEq] at he
  obtain ⟨rfl, _, rfl⟩ := he
  have hl : (l.take k).length = k := by rw [List.length_take]; omega
  have hfl : ∀ m : List α, (m.flatMap f).length = m.length * sz := fun m => by
    induction m with
    | nil => simp
    | cons y m ih => rw [List.flatMap_cons, List.length_append, hf, ih, List.length_cons, Nat.succ_mul]; omega
  unfold RowOf RdC
  rw [hl]
  refine ⟨a, cap, rfl, by omega, h2, by rw [hfl, hl], ?_⟩
  rcases h4 with h4 | ⟨b, off, rfl, hb, hc⟩
  · exact .inl (by omega)
  · refine .inr ⟨b, off, rfl, hb, fun i hi => ?_⟩
    have hle : k * sz ≤ l.length * sz := Nat.mul_le_mul_right _ hk
    rw [hc i (by omega)]
    have e : l.flatMap f = (l.take k).flatMap f ++ (l.drop k).flatMap f := by rw [← List.flatMap_append, List.take_append_drop]
    rw [e, List.getElem?_append_left (by rw [hfl, hl]; exact hi)]
set_option maxRecDepth 100000 in
theorem index_str (l : List (List UInt8)) (v : Value) (x : List UInt8) (w : World) (hrow : RowOf strC 1 w v l) :
    Calls Tryd.prog 59 #[v, .string ⟨x.toArray⟩] w fun e w' => (∃ n : Int, e = .returned (.int .i64 n) ∧ (0 ≤ n ↔ x ∈ l)) ∧ Below w.heap.size w w' := by
  obtain ⟨a, cap, rfl, hcap, hmx, hc⟩ := hrow.open strC_len17
  obtain ⟨n, hn⟩ : ∃ n, n = l.length := ⟨_, rfl⟩
  have Hn := Lib.hid hn
  rw [← hn] at hc hcap ⊢
  unfold maxLen at hmx
  clear hn hrow
  go_enter Tryd.func59, Tryd.ntmps59
  repeat' (first | go_values | go_skip | go_guarded | go_step | go_upon)
  go_loopg [5, 8] n (fun gk _ s8 w' => ∃ k : Nat, s8 = .int .i64 k ∧ k + gk = n ∧ Hid (∀ j y, j < k → l[j]? = some y → y ≠ x) ∧ Hid (Below w.heap.size w w'))
  case atStart => exact ⟨0, rfl, by omega, Lib.hid (fun j _ hj => absurd hj (Nat.not_lt_zero _)), Lib.hid (Below.refl _ _)⟩
  case round =>
    obtain ⟨k, rfl, hk, HA, HB⟩ := hrel
    by_cases hlt : k < n
    · have hlt' : (k : Int) < n := by omega
      obtain ⟨y, hy⟩ : ∃ y, l[k]? = some y := ⟨_, List.getElem?_eq_getElem (by rw [← Hn.out]; exact hlt)⟩
      rcases hc with hc | ⟨b, off, rfl, hb, hc⟩
      · omega
      have c0 := str_cell hc hy
      rw [← HB.out.cell (show b < w.heap.size from hb)] at c0
      have Hy := Lib.hid hy
      clear hc hy
      by_cases he : x = y
      · subst he
        repeat' (first | go_values | go_skip | go_guarded | go_step | go_upon)
        go_ret
        exact ⟨⟨k, rfl, by simp only [Int.natCast_nonneg, true_iff]; exact List.mem_of_getElem? Hy.out⟩, HB.out⟩
      · have heb : (x == y) = false := beq_false_of_ne he
        repeat' (first | go_values | go_skip | go_guarded | go_step | go_upon)
        go_roundg (gk - 1)
        case rel => exact ⟨k + 1, by go_num, by omega, Lib.hid (fun j z hj hz => by
          by_cases e : j = k
          · subst e
            rw [Hy.out] at hz
            simp only [Option.some.injEq] at hz
            exact fun h => he (by rw [← h, ← hz])
          · exact HA.out j z (by omega) hz), HB⟩
        case measure => omega
    · obtain rfl : n = k := by omega
      repeat' (first | go_values | go_skip | go_guarded | go_step | go_upon)
      go_ret
      refine ⟨⟨-1, rfl, ?_⟩, HB.out⟩
      constructor
      · intro h; omega
      · intro hm
        obtain ⟨i, hi⟩ := List.getElem?_of_mem hm
        exact absurd rfl (HA.out i x (by have := (List.getElem?_eq_some_iff.1 hi).1; have := Hn.out; omega) hi)
set_option maxRecDepth 100000 in
theorem contains_str (l : List (List UInt8)) (v : Value) (x : List UInt8) (w : World) (hrow : RowOf strC 1 w v l) :
    Calls Tryd.prog 32 #[v, .string ⟨x.toArray⟩] w fun e w' => (∃ B, e = .returned (.bool B) ∧ (B = true ↔ x ∈ l)) ∧ Below w.heap.size w w' := by
  have hidx := index_str l v x w hrow
  obtain ⟨a, cap, rfl, _⟩ := hrow.open strC_len17
  clear hrow
  go_enter Tryd.func32, Tryd.ntmps32
  repeat' (first | go_values | go_skip | go_guarded | go_step | go_upon)
  refine Calls.mono (hidx) ?_
  rintro _ w1 ⟨⟨n, rfl, hn⟩, hb1⟩
  dsimp only
  have Hn := Lib.hid hn
  clear hn
  repeat' (first | go_values | go_skip | go_guarded | go_step | go_upon)
  go_ret
  exact ⟨⟨_, rfl, by rw [← Hn.out]; simp⟩, hb1⟩
section
variable (p : Int → Bool) (g : Nat) (lb : Array Value)
set_option maxRecDepth 100000 in
theorem index_ci (eg : ∀ args w, (callFunc g args).run Tryd.prog w = .ok (.enter g args) w) (l : List Int) (v : Value) (w : World) (hrow : RowOf intC 1 w v l)
    (hp : ∀ W, Below w.heap.size w W → ∀ x, Calls Tryd.prog g (#[.int .i64 x] ++ lb) W fun e w' => e = .returned (.bool (p x)) ∧ Below W.heap.size W w') :
    Calls Tryd.prog 60 #[v, .func (.func g) #[] lb] w fun e w' => (∃ n : Int, e = .returned (.int .i64 n) ∧ (0 ≤ n ↔ ∃ x ∈ l, p x = true)) ∧ Below w.heap.size w w' := by
  obtain ⟨a, cap, rfl, hcap, hmx, hc⟩ := hrow.open intC_len17
  obtain ⟨n, hn⟩ : ∃ n, n = l.length := ⟨_, rfl⟩
  have Hn := Lib.hid hn
  rw [← hn] at hc hcap ⊢
  unfold maxLen at hmx
  clear hn hrow
  go_enter Tryd.func60, Tryd.ntmps60
  repeat' (first | go_values | go_skip | go_guarded | go_step | go_upon)
  go_loopg [5, 8] n (fun gk _ s8 w' => ∃ k : Nat, s8 = .int .i64 k ∧ k + gk = n ∧ Hid (∀ j y, j < k → l[j]? = some y → p y = false) ∧ Hid (Below w.heap.size w w'))
  case atStart => exact ⟨0, rfl, by omega, Lib.hid (fun j _ hj => absurd hj (Nat.not_lt_zero _)), Lib.hid (Below.refl _ _)⟩
  case round =>
    obtain ⟨k, rfl, hk, HA, HB⟩ := hrel
    by_cases hlt : k < n
    · have hlt' : (k : Int) < n := by omega
      obtain ⟨y, hy⟩ : ∃ y, l[k]? = some y := ⟨_, List.getElem?_eq_getElem (by rw [← Hn.out]; exact hlt)⟩
      rcases hc with hc | ⟨b, off, rfl, hb, hc⟩
      · omega
      have c0 := int_cell hc hy
      rw [← HB.out.cell (show b < w.heap.size from hb)] at c0
      have Hy := Lib.hid hy
      have hcall := hp _ HB.out y
      obtain ⟨x, hx⟩ : ∃ x, p y = x := ⟨_, rfl⟩
      rw [hx] at hcall
      have Hx := Lib.hid hx
      clear hp hc hx hy
      cases x with
      | true =>
        repeat' (first | (go_at_fn g; refine hcall.mono ?_; rintro e w1 ⟨rfl, hb1⟩; dsimp only) | go_values | go_skip | go_guarded | go_step | go_upon)
        go_ret
        exact ⟨⟨k, rfl, by simp only [Int.natCast_nonneg, true_iff]; exact ⟨y, List.mem_of_getElem? Hy.out, Hx.out⟩⟩, HB.out.trans (hb1.mono HB.out.size)⟩
      | false =>
        repeat' (first | (go_at_fn g; refine hcall.mono ?_; rintro e w1 ⟨rfl, hb1⟩; dsimp only) | go_values | go_skip | go_guarded | go_step | go_upon)
        go_roundg (gk - 1)
        case rel => exact ⟨k + 1, by go_num, by omega, Lib.hid (fun j z hj hz => by
          by_cases e : j = k
          · subst e
            rw [Hy.out] at hz
            simp only [Option.some.injEq] at hz
            rw [← hz]; exact Hx.out
          · exact HA.out j z (by omega) hz), Lib.hid (HB.out.trans (hb1.mono HB.out.size))⟩
        case measure => omega
    · obtain rfl : n = k := by omega
      repeat' (first | go_values | go_skip | go_guarded | go_step | go_upon)
      go_ret
      refine ⟨⟨-1, rfl, ?_⟩, HB.out⟩
      constructor
      · intro h; omega
      · rintro ⟨x, hm, h⟩
        obtain ⟨i, hi⟩ := List.getElem?_of_mem hm
        rw [HA.out i x (by have := (List.getElem?_eq_some_iff.1 hi).1; have := Hn.out; omega) hi] at h; cases h
set_option maxRecDepth 100000 in
theorem contains_ci (eg : ∀ args w, (callFunc g args).run Tryd.prog w = .ok (.enter g args) w) (l : List Int) (v : Value) (w : World) (hrow : RowOf intC 1 w v l)
    (hp : ∀ W, Below w.heap.size w W → ∀ x, Calls Tryd.prog g (#[.int .i64 x] ++ lb) W fun e w' => e = .returned (.bool (p x)) ∧ Below W.heap.size W w') :
    Calls Tryd.prog 33 #[v, .func (.func g) #[] lb] w fun e w' => e = .returned (.bool (l.any p)) ∧ Below w.heap.size w w' := by
  have hidx := index_ci p g lb eg l v w hrow hp
  clear hp hrow
  obtain ⟨B, hB⟩ : ∃ B, l.any p = B := ⟨_, rfl⟩
  rw [hB]
  have HB := Lib.hid hB
  clear hB
  go_enter Tryd.func33, Tryd.ntmps33
  repeat' (first | go_values | go_skip | go_guarded | go_step | go_upon)
  refine Calls.mono (hidx) ?_
  rintro _ w1 ⟨⟨n, rfl, hn⟩, hb1⟩
  dsimp only
  have e : B = decide (0 ≤ n) := by
    rw [← HB.out, Bool.eq_iff_iff, List.any_eq_true, decide_eq_true_iff, hn]
  have He := Lib.hid e
  clear hn e HB
  repeat' (first | go_values | go_skip | go_guarded | go_step | go_upon)
  go_ret
  exact ⟨by rw [He.out]; rfl, hb1⟩
end
/-- an id that is no name's -/
def noName (n : Nat) (x : Int) : Bool := decide (x < 0) || decide ((n : Int) ≤ x)
theorem enters_right1 : ∀ args w, (callFunc 34 args).run Tryd.prog w = .ok (.enter 34 args) w := enters_of Tryd.func34 (by kernel_rfl) rfl
set_option maxRecDepth 100000 in
theorem right_1 (x : Int) (g : Nat) (a : Option Addr) (n cap : Nat) (w : World) (hc : w.cell? ⟨g, 10, none⟩ = some (.slice a n cap)) :
    Calls Tryd.prog 34 (#[.int .i64 x] ++ #[.pointer (some ⟨g, 0, none⟩)]) w fun e w' => e = .returned (.bool (noName n x)) ∧ Below w.heap.size w w' := by
  show Calls Tryd.prog 34 #[_, _] w _
  by_cases h1 : x < 0
  · have e : noName n x = true := by unfold noName; rw [decide_eq_true h1]; rfl
    rw [e]
    clear e
    go_enter Tryd.func34, Tryd.ntmps34
    repeat' (first | go_values | go_skip | go_guarded | go_step | go_upon)
    go_ret
    exact ⟨rfl, Below.refl _ _⟩
  · by_cases h2 : (n : Int) ≤ x
    · have e : noName n x = true := by unfold noName; rw [decide_eq_true h2, Bool.or_true]
      rw [e]
      clear e
      go_enter Tryd.func34, Tryd.ntmps34
      repeat' (first | go_values | go_skip | go_guarded | go_step | go_upon)
      go_ret
      exact ⟨rfl, Below.refl _ _⟩
    · have e : noName n x = false := by unfold noName; rw [decide_eq_false h1, decide_eq_false h2]; rfl
      rw [e]
      clear e
      go_enter Tryd.func34, Tryd.ntmps34
      repeat' (first | go_values | go_skip | go_guarded | go_step | go_upon)
      go_ret
      exact ⟨rfl, Below.refl _ _⟩
set_option maxRecDepth 100000 in
theorem ref_frame (l : List Int) (v : Value) (m : Nat) (w : World) (hrow : RowOf intC 1 w v l) :
    Calls Tryd.prog 41 #[v, .int .i64 (m : Nat)] w fun e w' => (∃ B, e = .returned (.bool B) ∧ (B = true ↔ ¬ (32 < l.length ∨ l.any (noName m) = true))) ∧ Below w.heap.size w w' := by
  obtain ⟨a, cap, rfl, hcap, hmx, hc⟩ := hrow.open intC_len17
  obtain ⟨n, hn⟩ : ∃ n, n = l.length := ⟨_, rfl⟩
  have Hn := Lib.hid hn
  rw [← hn] at hc hcap ⊢
  unfold maxLen at hmx
  clear hn hrow
  go_enter Tryd.func41, Tryd.ntmps41
  repeat' (first | go_values | go_skip | go_guarded | go_step | go_upon)
  go_loopg [6, 9] n (fun gk _ s9 w' => ∃ k : Nat, s9 = .int .i64 k ∧ k + gk = n ∧ Hid (∀ j y, j < k → l[j]? = some y → noName m y = false) ∧ Hid (Below w.heap.size w w'))
  case atStart => exact ⟨0, rfl, by omega, Lib.hid (fun j _ hj => absurd hj (Nat.not_lt_zero _)), Lib.hid (Below.refl _ _)⟩
  case round =>
    obtain ⟨k, rfl, hk, HA, HB⟩ := hrel
    by_cases hlt : k < n
    · have hlt' : (k : Int) < n := by omega
      obtain ⟨y, hy⟩ : ∃ y, l[k]? = some y := ⟨_, List.getElem?_eq_getElem (by rw [← Hn.out]; exact hlt)⟩
      rcases hc with hc | ⟨b, off, rfl, hb, hc⟩
      · omega
      have c0 := int_cell hc hy
      rw [← HB.out.cell (show b < w.heap.size from hb)] at c0
      have Hbad : Hid (noName m y = true → l.any (noName m) = true) := Lib.hid fun h => List.any_eq_true.2 ⟨y, List.mem_of_getElem? hy, h⟩
      have Hnx : Hid (noName m y = false → ∀ j z, j < k + 1 → l[j]? = some z → noName m z = false) := Lib.hid fun h j z hj hz => by
        by_cases e : j = k
        · subst e
          rw [hy] at hz
          simp only [Option.some.injEq] at hz
          rw [← hz]; exact h
        · exact HA.out j z (by omega) hz
      clear hc hy
      by_cases h1 : y < 0
      · have Hb := Lib.hid (Hbad.out (by unfold noName; rw [decide_eq_true h1]; rfl))
        clear Hbad Hnx
        repeat' (first | go_values | go_skip | go_guarded | go_step | go_upon)
        go_ret
        exact ⟨⟨false, rfl, by rw [Hb.out]; simp⟩, HB.out⟩
      · by_cases h2 : (m : Int) ≤ y
        · have Hb := Lib.hid (Hbad.out (by unfold noName; rw [decide_eq_true h2, Bool.or_true]))
          clear Hbad Hnx
          repeat' (first | go_values | go_skip | go_guarded | go_step | go_upon)
          go_ret
          exact ⟨⟨false, rfl, by rw [Hb.out]; simp⟩, HB.out⟩
        · have Hg := Lib.hid (Hnx.out (by unfold noName; rw [decide_eq_false h1, decide_eq_false h2]; rfl))
          clear Hbad Hnx
          repeat' (first | go_values | go_skip | go_guarded | go_step | go_upon)
          go_roundg (gk - 1)
          case rel => exact ⟨k + 1, by go_num, by omega, Hg, HB⟩
          case measure => omega
    · obtain rfl : n = k := by omega
      have Hall : Hid (l.any (noName m) = false) := Lib.hid (by
        rw [List.any_eq_false]
        intro x hx
        obtain ⟨i, hi⟩ := List.getElem?_of_mem hx
        rw [HA.out i x (by have := (List.getElem?_eq_some_iff.1 hi).1; have := Hn.out; omega) hi]; decide)
      repeat' (first | go_values | go_skip | go_guarded | go_step | go_upon)
      go_ret
      refine ⟨⟨_, rfl, ?_⟩, HB.out⟩
      rw [Hall.out]
      simp
      omega
end Go.Proofs.YtkdbdpcdggildaaDoor
