/- Walk: the texts of merges, by the reference (fretsawref13.Texts): it ends, with some texts or none. Condition: a row of merges. -/
import Derived.Test.YtkpdcejnanhgoaaPrgSpec
import Derived.Test.YtkpdcejnanhgoaaAnyC
import Derived.Test.YtkpdcejnanhgoaaOwnRows
import Derived.Deep.Cut
namespace Go.Proofs.Ytkpdcejnanhgoaa
open Go.RowKit
/-- a merge's cells -/
def mgC (m : Int × Int) : List Value := [.int .i64 m.1, .int .i64 m.2]
theorem mgC_len (m : Int × Int) : (mgC m).length = 2 := rfl
theorem strC_len (l : List UInt8) : (strC l).length = 1 := rfl
theorem info_str13 : (Try.prog.info? 9).map (fun i => (i.zero, i.size, i.bytes)) = some (some (.string ⟨#[]⟩), 1, 16) := by kernel_rfl
/-- two cells of a merge -/
theorem mg_cells {w : World} {b off : Nat} {l : List (Int × Int)} (h : ∀ (i : Nat) (x : Int × Int) (j : Nat), l[i]? = some x → j < 2 → w.cell? ⟨b, off + (i * 2 + j), none⟩ = (mgC x)[j]?) (k : Nat) (hk : k < l.length) :
    w.cell? ⟨b, off + k * 2, none⟩ = some (.int .i64 (l.getD k (0, 0)).1) ∧ w.cell? ⟨b, off + k * 2 + 1, none⟩ = some (.int .i64 (l.getD k (0, 0)).2) := by
  have hx : l[k]? = some (l.getD k (0, 0)) := by rw [List.getD_eq_getElem?_getD, List.getElem?_eq_getElem hk]; rfl
  exact ⟨h k _ 0 hx (by decide), h k _ 1 hx (by decide)⟩
/-- a text of the call's own row -/
theorem own_str {B : Nat} {w : World} {g n cap : Nat} {ts : List (List UInt8)} (h : OwnR strC 1 B 9 w (.slice (some ⟨g, 0, none⟩) n cap) ts) (i : Nat) (hi : i < ts.length) : w.cell? ⟨g, i, none⟩ = some (.string ⟨(ts.getD i []).toArray⟩) := by
  have hx : ts[i]? = some (ts.getD i []) := by rw [List.getD_eq_getElem?_getD, List.getElem?_eq_getElem hi]; rfl
  have := h.cellAt strC_len i _ 0 hx (by decide)
  simpa [strC] using this
theorem getD_all {α : Type} {p : α → Prop} {l : List α} {d : α} (h : ∀ x ∈ l, p x) {k : Nat} (hk : k < l.length) : p (l.getD k d) := by
  rw [List.getD_eq_getElem?_getD, List.getElem?_eq_getElem hk]; exact h _ (List.getElem_mem hk)
theorem own_empty {α : Type} {f : α → List Value} {sz B : Nat} {e : TypeId} (W : World) (hB : B ≤ W.heap.size) : OwnR f sz B e (W.alloc (.cells #[] e)) (.slice (some ⟨W.heap.size, 0, none⟩) 0 0) ([] : List α) :=
  ⟨by simp, .inr ⟨W.heap.size, 0, #[], (0, 0), rfl, hB, Go.heap_alloc_new _ _, fun j h => by simp at h, Nat.le_refl _, Nat.zero_le _, by simp, by simp⟩⟩
theorem ba_cat13 (a b : List UInt8) : (⟨a.toArray⟩ : ByteArray) ++ ⟨b.toArray⟩ = ⟨(a ++ b).toArray⟩ := by
  apply ByteArray.ext
  rw [ByteArray.data_append]
  simp
theorem genC13 {P : Program} {md : Region.Mode} {ops : Array Oper} {C : World → Prop} {Q : Exit → Act → World → Prop} {fuel : Nat} {listed : Array Bool} {a : Act} {w : World} (F : World → Prop) (hF : F w) (h : ∀ w', F w' → wpAnyC P md ops C Q fuel listed a w') : wpAnyC P md ops C Q fuel listed a w := h w hF
theorem short_snoc {ts : List (List UInt8)} (h : ∀ t ∈ ts, t.length ≤ 64) {x : List UInt8} (hx : x.length ≤ 64) : ∀ t ∈ ts ++ [x], t.length ≤ 64 := fun t ht => by
  rcases List.mem_append.1 ht with ht | ht
  · exact h t ht
  · simp at ht; rw [ht]; exact hx
set_option maxRecDepth 100000 in
set_option maxHeartbeats 4000000 in
theorem ref_Texts (v : Value) (l : List (Int × Int)) (w : World) (h : RowOf mgC 2 w v l) :
    Calls Try.prog 22 #[v] w fun e w' => (∃ u c, e = .returned (.tuple #[u, .int .i64 c])) ∧ Below w.heap.size w w' := by
  obtain ⟨ad, cap, rfl, hcap, hmx, hcell⟩ := h.open mgC_len
  clear h
  obtain ⟨n, hn⟩ : ∃ n, n = l.length := ⟨_, rfl⟩
  have Hn := Lib.hid hn
  rw [← hn] at hcap hcell ⊢
  clear hn
  unfold maxLen at hmx
  by_cases h1 : 1024 < n
  · go_enter Try.func22, Try.ntmps22
    repeat' (first | go_values | go_skip | go_guarded | go_step | go_upon)
    go_ret2
    exact ⟨⟨_, _, rfl⟩, Below.refl _ _⟩
  go_enter Try.func22, Try.ntmps22
  repeat' (first | go_values | go_skip | go_guarded | go_step | go_upon)
  have O0 := Lib.hid (own_empty (f := strC) (sz := 1) (e := 9) w (Nat.le_refl _))
  have B0 := Lib.hid ((Below.refl w.heap.size w).alloc (Nat.le_refl _) (.cells #[] 9))
  generalize w.alloc (.cells #[] 9) = w0 at O0 B0 ⊢
  go_loopw [5, 4] (fun s5 s4 wr => ∃ (b : Nat) (ts : List (List UInt8)), s5 = .int .i64 b ∧ b ≤ 256 ∧ ts.length = b ∧ Hid (∀ t ∈ ts, t.length ≤ 64) ∧ Hid (OwnR strC 1 w.heap.size 9 wr s4 ts) ∧ Hid (Below w.heap.size w wr)) (fun s5 _ _ => 256 - (intOf s5).toNat)
  case atStart => exact ⟨0, [], rfl, Nat.zero_le _, rfl, Lib.hid (fun t ht => by simp at ht), O0, B0⟩
  case round =>
    clear O0 B0
    obtain ⟨b, ts, rfl, hb, htl, HS, HO, HB⟩ := hrel
    by_cases hb6 : b < 256
    · have hw1 : IntKind.u8.wrap (b : Int) = (b : Int) := by rw [IntKind.wrap_u8]; omega
      have hown := OwnR.keep HO.out ((Below.refl wr.heap.size wr).alloc (Nat.le_refl _) (.cells #[.int .u8 b] 5)) (Nat.le_refl _)
      have hwB : w.heap.size ≤ (wr.alloc (.cells #[.int .u8 b] 5)).heap.size := by have := HB.out.size; rw [World.size_alloc]; omega
      repeat' (first | (with_reducible refine wp_conv_lit1 Try.underlying87 Try.underlying5 Try.underlying9 rfl _ rfl rfl ?_) | (at_builtin; go_loud (refine app_one 16 (wr.heap.size + 1) (by simp) [u8 b] strC_len (by intro y hy; simp [strC] at hy; subst hy; rfl) Try.underlying31 info_str13 rfl rfl _ _ rfl rfl rfl rfl hown hwB (by omega) (by unfold maxLen; omega) ?_); intro v4 w4 hown4 hb4 hk4 _) | go_values | go_skip | go_guarded | go_step | go_upon)
      go_roundw
      case rel => exact ⟨b + 1, ts ++ [[u8 b]], by go_num, by omega, by simp; omega, Lib.hid (short_snoc HS.out (by simp)), Lib.hid hown4, Lib.hid ((HB.out.alloc HB.out.size _).trans hb4)⟩
      case measure => simp [intOf]; omega
    · obtain rfl : b = 256 := by omega
      rw [show ((256 : Nat) : Int) = 256 from rfl]
      repeat' (first | go_values | go_skip | go_guarded | go_step | go_upon)
      have Htl := Lib.hid htl
      clear htl
      go_loopw [27, 4] (fun s27 s4 wr => ∃ (k : Nat) (ts : List (List UInt8)), s27 = .int .i64 k ∧ k ≤ n ∧ Hid (ts.length = 256 + k) ∧ Hid (∀ t ∈ ts, t.length ≤ 64) ∧ Hid (OwnR strC 1 w.heap.size 9 wr s4 ts) ∧ Hid (Below w.heap.size w wr)) (fun s27 _ _ => n - (intOf s27).toNat)
      case atStart => exact ⟨0, ts, rfl, Nat.zero_le _, Htl, HS, HO, HB⟩
      case round =>
        clear Htl HS HO HB
        obtain ⟨k, ts, rfl, hk, Htl, HS, HO, HB⟩ := hrel
        by_cases hkn : k < n
        · rcases hcell with h0 | ⟨b, off, rfl, hbB, hcell⟩
          · omega
          obtain ⟨c0, c1⟩ := mg_cells hcell k (by rw [← Hn.out]; exact hkn)
          clear hcell
          rw [← HB.out.cell (show b < w.heap.size from hbB)] at c0 c1
          generalize (l.getD k (0, 0)).1 = L at c0
          generalize (l.getD k (0, 0)).2 = R at c1
          by_cases hL0 : L < 0
          · repeat' (first | go_values | go_skip | go_guarded | go_step | go_upon)
            go_ret2
            exact ⟨⟨_, _, rfl⟩, HB.out.alloc HB.out.size _⟩
          by_cases hL1 : 255 + (k : Int) < L
          · have hL0' : 0 ≤ L := by omega
            repeat' (first | go_values | go_skip | go_guarded | go_step | go_upon)
            go_ret2
            exact ⟨⟨_, _, rfl⟩, HB.out.alloc HB.out.size _⟩
          by_cases hR0 : R < 0
          · have hL0' : 0 ≤ L := by omega
            have hL1' : L ≤ 255 + (k : Int) := by omega
            repeat' (first | go_values | go_skip | go_guarded | go_step | go_upon)
            go_ret2
            exact ⟨⟨_, _, rfl⟩, HB.out.alloc HB.out.size _⟩
          by_cases hR1 : 255 + (k : Int) < R
          · have hL0' : 0 ≤ L := by omega
            have hL1' : L ≤ 255 + (k : Int) := by omega
            have hR0' : 0 ≤ R := by omega
            repeat' (first | go_values | go_skip | go_guarded | go_step | go_upon)
            go_ret2
            exact ⟨⟨_, _, rfl⟩, HB.out.alloc HB.out.size _⟩
          obtain ⟨x, rfl⟩ : ∃ x : Nat, L = x := ⟨L.toNat, by omega⟩
          obtain ⟨y, rfl⟩ : ∃ y : Nat, R = y := ⟨R.toNat, by omega⟩
          have hx0 : (0 : Int) ≤ x := by omega
          have hy0 : (0 : Int) ≤ y := by omega
          have hx1 : (x : Int) ≤ 255 + (k : Int) := by omega
          have hy1 : (y : Int) ≤ 255 + (k : Int) := by omega
          clear hL0 hL1 hR0 hR1
          obtain ⟨m, hm⟩ : ∃ m, m = ts.length := ⟨_, rfl⟩
          have hmk : m = 256 + k := by rw [hm]; exact Htl.out
          obtain ⟨g4, c4, e4⟩ := HO.out.somewhere (by omega)
          subst e4
          rw [← hm] at HO ⊢
          have Hm := Lib.hid hm
          have hm1 : k + 255 < m := by omega
          have hm2 : m ≤ k + 256 := by omega
          clear hm hmk
          have hbx := (Below.refl wr.heap.size wr).alloc (Nat.le_refl _) (.cells #[.int .i64 x, .int .i64 y] 103)
          have HOx := Lib.hid (HO.out.keep hbx (Nat.le_refl _))
          have HBx := Lib.hid (HB.out.trans (hbx.mono HB.out.size))
          have hxm : x < m := by omega
          have hym : y < m := by omega
          repeat' (go_not_at_region 13; first | go_values | go_skip | go_guarded | go_step | go_upon)
          clear c0 c1
          have hc0 : (wr.alloc (.cells #[.int .i64 x, .int .i64 y] 103)).heap[wr.heap.size]? = some (.cells #[.int .i64 x, .int .i64 y] 103 (0, 0)) := Go.heap_alloc_new _ _
          clear hbx HO HB
          generalize wr.alloc (.cells #[.int .i64 x, .int .i64 y] 103) = wx at HOx HBx hc0 ⊢
          generalize wr.heap.size = gx at hc0 ⊢
          have hgl : gx < wx.heap.size := (Array.getElem?_eq_some_iff.1 hc0).1
          have q0 : ∀ nq : WB wx, nq.1.cell? ⟨gx, 0, none⟩ = some (.int .i64 x) := fun nq => (nq.2.cell hgl).trans (by rw [cell_of_row _ _ 0 _ _ _ hc0]; rfl)
          have q1 : ∀ nq : WB wx, nq.1.cell? ⟨gx, 1, none⟩ = some (.int .i64 y) := fun nq => (nq.2.cell hgl).trans (by rw [cell_of_row _ _ 1 _ _ _ hc0]; rfl)
          have q2 : ∀ nq : WB wx, nq.1.cell? ⟨g4, x, none⟩ = some (.string ⟨(ts.getD x []).toArray⟩) := fun nq => own_str (OwnR.keep HOx.out nq.2 (Nat.le_refl _)) x (by rw [← Hm.out]; exact hxm)
          have q3 : ∀ nq : WB wx, nq.1.cell? ⟨g4, y, none⟩ = some (.string ⟨(ts.getD y []).toArray⟩) := fun nq => own_str (OwnR.keep HOx.out nq.2 (Nat.le_refl _)) y (by rw [← Hm.out]; exact hym)
          have hl1 := getD_all (d := []) HS.out (k := x) (by rw [← Hm.out]; exact hxm)
          have hl2 := getD_all (d := []) HS.out (k := y) (by rw [← Hm.out]; exact hym)
          generalize ts.getD x [] = tx at q2 hl1
          generalize ts.getD y [] = ty at q3 hl2
          have hif : ¬ 9223372036854775807 < tx.length + ty.length := by omega
          have hcat := ba_cat13 tx ty
          have hl3 : (tx ++ ty).length ≤ 128 := by rw [List.length_append]; omega
          generalize tx ++ ty = tz at hcat hl3
          refine wp_region_anyC (by kernel_rfl) wx ?_
          refine wpAnyC_take (i := 0) (v := _) rfl (by kernel_rfl) (by kernel_rfl) (by kernel_rfl) (fun _ _ _ h => h) (Or.inl ⟨by rfl, fun w ⟨nq, hw⟩ => by (subst hw; go_simp <;> with_reducible rfl)⟩) (by go_simp <;> with_reducible rfl) ?_
          refine wpAnyC_take (i := 1) (v := _) rfl (by kernel_rfl) (by kernel_rfl) (by kernel_rfl) (fun _ _ _ h => h) (Or.inl ⟨by rfl, fun w ⟨nq, hw⟩ => by (subst hw; go_simp <;> with_reducible rfl)⟩) (by go_simp <;> with_reducible rfl) ?_
          refine wpAnyC_take (i := 2) (v := _) rfl (by kernel_rfl) (by kernel_rfl) (by kernel_rfl) (fun _ _ _ h => h) (Or.inl ⟨by rfl, fun w ⟨nq, hw⟩ => by (subst hw; go_simp <;> with_reducible rfl)⟩) (by go_simp <;> with_reducible rfl) ?_
          refine wpAnyC_take (i := 3) (v := _) rfl (by kernel_rfl) (by kernel_rfl) (by kernel_rfl) (fun _ _ _ h => h) (Or.inl ⟨by rfl, fun w ⟨nq, hw⟩ => by (subst hw; go_simp <;> with_reducible rfl)⟩) (by go_simp <;> with_reducible rfl) ?_
          refine wpAnyC_take (i := 4) (v := _) rfl (by kernel_rfl) (by kernel_rfl) (by kernel_rfl) (fun _ _ _ h => h) (Or.inl ⟨by rfl, fun w ⟨nq, hw⟩ => by (subst hw; go_simp <;> with_reducible rfl)⟩) (by go_simp <;> with_reducible rfl) ?_
          refine wpAnyC_take (i := 5) (v := _) rfl (by kernel_rfl) (by kernel_rfl) (by kernel_rfl) (fun _ _ _ h => h) (Or.inl ⟨by rfl, fun w ⟨nq, hw⟩ => by (subst hw; go_simp <;> with_reducible rfl)⟩) (by go_simp <;> with_reducible rfl) ?_
          refine wpAnyC_take (i := 6) (v := _) rfl (by kernel_rfl) (by kernel_rfl) (by kernel_rfl) (fun _ _ _ h => h) (Or.inl ⟨by rfl, fun w ⟨nq, hw⟩ => by (subst hw; go_simp <;> with_reducible rfl)⟩) (by go_simp <;> with_reducible rfl) ?_
          refine wpAnyC_take (i := 7) (v := _) rfl (by kernel_rfl) (by kernel_rfl) (by kernel_rfl) (fun _ _ _ h => h) (Or.inl ⟨by rfl, fun w ⟨nq, hw⟩ => by (subst hw; go_simp <;> with_reducible rfl)⟩) (by go_simp <;> with_reducible rfl) ?_
          refine wpAnyC_take (i := 8) (v := _) rfl (by kernel_rfl) (by kernel_rfl) (by kernel_rfl) (fun _ _ _ h => h) (Or.inl ⟨by rfl, fun w ⟨nq, hw⟩ => by (subst hw; go_simp <;> with_reducible rfl)⟩) (by go_simp <;> with_reducible rfl) ?_
          refine wpAnyC_take (i := 9) (v := _) rfl (by kernel_rfl) (by kernel_rfl) (by kernel_rfl) (fun _ _ _ h => h) (Or.inl ⟨by rfl, fun w ⟨nq, hw⟩ => by (subst hw; go_simp <;> with_reducible rfl)⟩) (by go_simp <;> with_reducible rfl) ?_
          refine wpAnyC_take (i := 10) (v := _) rfl (by kernel_rfl) (by kernel_rfl) (by kernel_rfl) (fun _ _ _ h => h) (Or.inl ⟨by rfl, fun w ⟨nq, hw⟩ => by (subst hw; go_simp <;> with_reducible rfl)⟩) (by go_simp <;> with_reducible rfl) ?_
          refine wpAnyC_take (i := 11) (v := _) rfl (by kernel_rfl) (by kernel_rfl) (by kernel_rfl) (fun _ _ _ h => h) (Or.inl ⟨by rfl, fun w ⟨nq, hw⟩ => by (subst hw; go_simp <;> with_reducible rfl)⟩) (by go_simp <;> with_reducible rfl) ?_
          refine genC13 (fun W => Below wx.heap.size wx W ∧ OwnR strC 1 w.heap.size 9 W (.slice (some ⟨g4, 0, none⟩) m c4) ts ∧ Below w.heap.size w W) ⟨(Below.refl _ _).drew, OwnR.keep HOx.out (Below.refl _ _).drew (Nat.le_refl _), HBx.out.trans ((Below.refl _ _).drew)⟩ ?_
          rintro wd ⟨hbd, hod, hwd⟩
          have HO := Lib.hid hod
          have HB := Lib.hid hwd
          refine wpAnyC_done (by kernel_rfl) (CW.of (hbd)) (by go_simp <;> with_reducible rfl) ?_
          clear hbd hod hwd HOx HBx
          clear q0 q1 q2 q3 hif hcat hl1 hl2 hc0 hgl
          by_cases hz : 64 < tz.length
          · have hz1 : (64 : Int) < tz.length := by omega
            repeat' (first | go_values | go_skip | go_guarded | go_step | go_upon)
            go_ret2
            exact ⟨⟨_, _, rfl⟩, HB.out⟩
          · have hz1 : (tz.length : Int) ≤ 64 := by omega
            repeat' (first | go_values | go_skip | go_guarded | go_step | go_upon)
            go_loopw [9] (fun s9 wr => ∃ q : Nat, s9 = .int .i64 q ∧ q ≤ m ∧ Hid (OwnR strC 1 w.heap.size 9 wr (.slice (some ⟨g4, 0, none⟩) m c4) ts) ∧ Hid (Below w.heap.size w wr)) (fun s9 _ => m - (intOf s9).toNat)
            case atStart => exact ⟨256, rfl, by omega, HO, HB⟩
            case round =>
              clear HO HB
              obtain ⟨q, rfl, hq, HO, HB⟩ := hrel
              by_cases hqm : q < m
              · have q9 := own_str HO.out q (by rw [← Hm.out]; exact hqm)
                generalize ts.getD q [] = tq at q9
                by_cases he : tq = tz
                · subst he
                  repeat' (first | go_values | go_skip | go_guarded | go_step | go_upon)
                  go_ret2
                  exact ⟨⟨_, _, rfl⟩, HB.out⟩
                · have heb : (tq == tz) = false := beq_false_of_ne he
                  repeat' (first | go_values | go_skip | go_guarded | go_step | go_upon)
                  go_roundw
                  case rel => exact ⟨q + 1, by go_num, by omega, HO, HB⟩
                  case measure => simp [intOf]; omega
              · obtain rfl : m = q := by omega
                have hown := HO.out
                have hwB := HB.out.size
                repeat' (first | (at_builtin; go_loud (refine app_one 16 wr.heap.size rfl tz strC_len (by intro y hy; simp [strC] at hy; subst hy; rfl) Try.underlying31 info_str13 rfl rfl _ _ rfl rfl rfl rfl hown hwB (by rw [← Hm.out]; omega) (by rw [← Hm.out]; unfold maxLen; omega) ?_); intro v4 w4 hown4 hb4 hk4 _) | go_values | go_skip | go_guarded | go_step | go_upon)
                go_roundw
                case rel => exact ⟨k + 1, ts ++ [tz], by go_num, by omega, Lib.hid (by rw [List.length_append, Htl.out]; rfl), Lib.hid (short_snoc HS.out (by omega)), Lib.hid hown4, Lib.hid (HB.out.trans hb4)⟩
                case measure => simp [intOf]; omega
        · obtain rfl : n = k := by omega
          repeat' (first | go_values | go_skip | go_guarded | go_step | go_upon)
          go_ret2
          exact ⟨⟨_, _, rfl⟩, HB.out⟩
end Go.Proofs.Ytkpdcejnanhgoaa
