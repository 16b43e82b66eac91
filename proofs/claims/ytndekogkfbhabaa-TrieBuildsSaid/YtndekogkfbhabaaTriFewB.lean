/- TrieBuilds walked where there are few words. Conditions: the list can be read. -/
import Derived.Test.YtndekogkfbhabaaTriLng
namespace Go.Proofs.Ytndekogkfbhabaa
open Go.RowKit
/-- the words ahead of one are not too long -/
theorem any_take {us : List (List UInt8)} {k : Nat} {x : List UInt8} (hx : us[k]? = some x) : ((us.take (k + 1)).any fun x => decide (64 < x.length)) = (((us.take k).any fun x => decide (64 < x.length)) || decide (64 < x.length)) := by
  rw [List.take_add_one, hx, Option.toList_some, List.any_append]
  simp
set_option maxRecDepth 100000 in
set_option maxHeartbeats 8000000 in
theorem builds_few (w : World) (v : Value) (ws : List (List UInt8)) (hrow : RowOf strC 1 w v ws) (hm : ws.length ≤ 2048) (s : ByteArray) (a : Int) (ha : I64 a) :
    Calls Try.prog 4 #[v, .string s, .int .i64 a] w fun e w' => e = .returned (.bool true) ∧ Below w.heap.size w w' := by
  have hfew := law_few ws v w hrow
  obtain ⟨av0, cap0, rfl, _, _, _⟩ := hrow.open strC_lenT
  have hm' : (ws.length : Int) ≤ 2048 := by omega
  generalize hn0 : ws.length = n0 at hm hm' hfew ⊢
  clear hn0 hrow
  go_enter Try.func4, Try.ntmps4
  repeat' (first | go_values | go_skip | go_guarded | go_step | go_upon)
  refine Calls.mono (hfew) ?_
  rintro _ w1 ⟨v2, rfl, rfl, hrow2⟩
  dsimp only
  obtain ⟨us, hus⟩ : ∃ us, ws.take 120 = us := ⟨_, rfl⟩
  have hul : us.length ≤ 120 := by rw [← hus, List.length_take]; omega
  rw [hus] at hrow2
  obtain ⟨av, cap, rfl, hcap, hmx, hc⟩ := hrow2.open strC_lenT
  obtain ⟨n, hn⟩ : ∃ n, us.length = n := ⟨_, rfl⟩
  rw [hn] at hrow2 hul hcap hc ⊢
  unfold maxLen at hmx
  have Hn := Lib.hid hn
  have Hc := Lib.hid hc
  have Hrow := Lib.hid hrow2
  have hbd := trie_Build us (.slice av n cap) w1 hrow2 (.inl (by rw [hn]; exact hul))
  clear hus hn hc hrow2
  repeat' (first | go_values | go_skip | go_guarded | go_step | go_upon)
  refine Calls.mono hbd ?_
  intro e w2 hB
  obtain ⟨p1, n1, k1, p2, n2, k2, p3, n3, k3, E, rfl, hb2, hE1, hE2, hE3, hE4, hE5⟩ := build_form hB
  dsimp only
  have HB2 := Lib.hid hb2
  have HE1 := Lib.hid hE1
  have HE2 := Lib.hid hE2
  have HE3 := Lib.hid hE3
  have HE4 := Lib.hid hE4
  have HE5 := Lib.hid hE5
  clear hb2 hE1 hE2 hE3 hE4 hE5 hB hbd
  repeat' (go_not_at_region 4; first | go_values | go_skip | go_guarded | go_step | go_upon)
  have hal : Below w2.heap.size w2 (w2.alloc (.cells #[.slice p1 n1 k1, .slice p2 n2 k2, .slice p3 n3 k3] 27)) := (Below.refl _ _).alloc (Nat.le_refl _) _
  have hnew := Go.heap_alloc_new w2 (.cells #[.slice p1 n1 k1, .slice p2 n2 k2, .slice p3 n3 k3] 27)
  obtain ⟨w3, hw3⟩ : ∃ w3, w2.alloc (.cells #[.slice p1 n1 k1, .slice p2 n2 k2, .slice p3 n3 k3] 27) = w3 := ⟨_, rfl⟩
  obtain ⟨ta, hta⟩ : ∃ ta, w2.heap.size = ta := ⟨_, rfl⟩
  rw [hw3] at hal hnew ⊢
  rw [hta] at hnew ⊢
  have HB3 := Lib.hid (HB2.out.trans (hal.mono HB2.out.size))
  have HE3' : Hid (E = 0 → TrieV w3 (.agg #[.slice p1 n1 k1, .slice p2 n2 k2, .slice p3 n3 k3]) (laidM us)) := Lib.hid fun h => ((HE3.out h).1.keep hal)
  have HA := Lib.hid hnew
  have Hrow3 := Lib.hid (Hrow.out.keep HB3.out)
  clear hal hnew hw3 hta
  have hn2 : (n : Int) ≤ 2048 := by omega
  repeat' (first | go_values | go_skip | go_guarded | go_step | go_upon)
  go_loopg [35, 9] n (fun gk s35 s9 wr => ∃ (k : Nat) (b : Bool), s35 = .int .i64 k ∧ s9 = .bool b ∧ k + gk = n ∧ Hid (((us.take k).any fun x => decide (64 < x.length)) = b) ∧ Hid (Below w3.heap.size w3 wr))
  case atStart => exact ⟨0, false, rfl, by simp; omega, by omega, Lib.hid rfl, Lib.hid (Below.refl _ _)⟩
  case round =>
    obtain ⟨k, b0, rfl, rfl, hk, Hany, HB⟩ := hrel
    by_cases hlt : k < n
    · have hlt' : (k : Int) < n := by omega
      obtain ⟨x, hx⟩ : ∃ x, us[k]? = some x := ⟨_, List.getElem?_eq_getElem (by rw [Hn.out]; exact hlt)⟩
      obtain ⟨b, off, rfl, hb, hcc⟩ := Hc.out.resolve_left (by omega)
      have c0 := str_cellT hcc hx
      rw [← (HB3.out.trans (HB.out.mono HB3.out.size)).cell (show b < w1.heap.size from hb)] at c0
      obtain ⟨X, hX⟩ : ∃ X : ByteArray, X = ⟨x.toArray⟩ := ⟨_, rfl⟩
      rw [← hX] at c0
      have hXs : X.size = x.length := by rw [hX]; rfl
      have Hat := Lib.hid (any_take hx)
      have HXs := Lib.hid hXs
      clear hx hcc hX hXs
      cases b0 with
      | true =>
        repeat' (first | go_values | go_skip | go_guarded | go_step | go_upon)
        go_roundg (gk - 1)
        case measure => omega
        case rel => exact ⟨k + 1, true, by go_num, rfl, by omega, Lib.hid (by rw [Hat.out, Hany.out]; rfl), HB⟩
      | false =>
        by_cases h64 : 64 < X.size
        · have h64' : (64 : Int) < X.size := by omega
          repeat' (first | go_values | go_skip | go_guarded | go_step | go_upon)
          go_roundg (gk - 1)
          case measure => omega
          case rel => exact ⟨k + 1, true, by go_num, rfl, by omega, Lib.hid (by rw [Hat.out, ← HXs.out, decide_eq_true h64]; simp), HB⟩
        · have h64' : (X.size : Int) ≤ 64 := by omega
          repeat' (first | go_values | go_skip | go_guarded | go_step | go_upon)
          go_roundg (gk - 1)
          case measure => omega
          case rel => exact ⟨k + 1, false, by go_num, by rw [decide_eq_false (by omega)], by omega, Lib.hid (by rw [Hat.out, Hany.out, ← HXs.out, decide_eq_false h64]; rfl), HB⟩
    · have hlt' : (n : Int) ≤ k := by omega
      have hany := Hany.out
      rw [List.take_of_length_le (by rw [Hn.out]; omega)] at hany
      have HA2 := Lib.hid (show wr.heap[ta]? = some (.cells #[.slice p1 n1 k1, .slice p2 n2 k2, .slice p3 n3 k3] 27 (0, 0)) by
        rw [HB.out.block _ (Array.getElem?_eq_some_iff.1 HA.out).1]; exact HA.out)
      have HBr := Lib.hid (HB3.out.trans (HB.out.mono HB3.out.size))
      have HE3r : Hid (E = 0 → TrieV wr (.agg #[.slice p1 n1 k1, .slice p2 n2 k2, .slice p3 n3 k3]) (laidM us)) := Lib.hid fun h => (HE3'.out h).keep HB.out
      have Hrowr := Lib.hid (Hrow3.out.keep HB.out)
      cases b0 with
      | true =>
        have hl : longB us := .inr hany
        have hE := HE4.out hl
        subst hE
        have hz := HE2.out (by decide)
        subst hz
        have c0 : wr.cell? ⟨ta, 0, none⟩ = some (.slice p1 0 k1) := by rw [cell_of_row wr ta 0 _ _ _ HA2.out]; rfl
        clear hany hl
        repeat' (first | go_values | go_skip | go_guarded | go_step | go_upon)
        go_ret
        exact ⟨rfl, HBr.out⟩
      | false =>
        have hl : Hid (¬ longB us) := Lib.hid (by
          rintro (h | h)
          · rw [Hn.out] at h; omega
          · rw [hany] at h; cases h)
        obtain ⟨wl, hwl⟩ : ∃ wl, wr = wl := ⟨_, rfl⟩
        rw [hwl] at HA2 HBr HE3r Hrowr ⊢
        clear hany hwl HB Hany
        repeat' (first | go_values | go_skip | go_guarded | go_step | go_upon)
        go_loopg [57] n (fun gk s57 wr => ∃ i : Nat, s57 = .int .i64 i ∧ i + gk = n ∧ Hid (∀ j y, j < i → us[j]? = some y → atW us y = j) ∧ Hid (Below wl.heap.size wl wr))
        case atStart => exact ⟨0, rfl, by omega, Lib.hid (fun j y hj _ => absurd hj (Nat.not_lt_zero _)), Lib.hid (Below.refl _ _)⟩
        case round =>
          obtain ⟨i, rfl, hi, HI, HB⟩ := hrel
          by_cases hlt2 : i < n
          · have hlt2' : (i : Int) < n := by omega
            obtain ⟨x, hx⟩ : ∃ x, us[i]? = some x := ⟨_, List.getElem?_eq_getElem (by rw [Hn.out]; exact hlt2)⟩
            obtain ⟨b, off, rfl, hb, hcc⟩ := Hc.out.resolve_left (by omega)
            have c0 := str_cellT hcc hx
            rw [← (HBr.out.trans (HB.out.mono HBr.out.size)).cell (show b < w1.heap.size from hb)] at c0
            obtain ⟨X, hX⟩ : ∃ X : ByteArray, X = ⟨x.toArray⟩ := ⟨_, rfl⟩
            rw [← hX] at c0
            have hXl : X.data.toList = x := by rw [hX]
            have hat := ref_AtB (Hrowr.out.keep HB.out) X
            rw [hXl] at hat
            obtain ⟨z, hz⟩ : ∃ z, atW us x = z := ⟨_, rfl⟩
            rw [hz] at hat
            have Hz := Lib.hid hz
            have Hx := Lib.hid hx
            clear hx hcc hX hXl hz
            repeat' (first | go_values | go_skip | go_guarded | go_step | go_upon)
            refine Calls.mono hat ?_
            rintro _ w5 ⟨rfl, hb5⟩
            have HB5 := Lib.hid (HB.out.trans (hb5.mono HB.out.size))
            clear hb5 hat c0
            dsimp only
            by_cases hzi : z = i
            · have Hzi := Lib.hid hzi
              have he : (z == (i : Int)) = true := beq_iff_eq.2 hzi
              clear hzi
              repeat' (first | go_values | go_skip | go_guarded | go_step | go_upon)
              go_roundg (gk - 1)
              case measure => omega
              case rel =>
                refine ⟨i + 1, by go_num, by omega, Lib.hid fun j y hj hy => ?_, HB5⟩
                by_cases e : j = i
                · subst e
                  rw [Hx.out] at hy
                  obtain rfl := Option.some.inj hy
                  rw [Hz.out, Hzi.out]
                · exact HI.out j y (by omega) hy
            · have he : (z == (i : Int)) = false := beq_false_of_ne hzi
              have hnd : ¬ us.Nodup := fun h => hzi (by rw [← Hz.out]; exact (nodup_at us).1 h i x Hx.out)
              have hE := HE5.out hl.out hnd
              subst hE
              have hz0 := HE2.out (by decide)
              subst hz0
              have c0 : w5.cell? ⟨ta, 0, none⟩ = some (.slice p1 0 k1) := by rw [HB5.out.cell (Array.getElem?_eq_some_iff.1 HA2.out).1, cell_of_row wl ta 0 _ _ _ HA2.out]; rfl
              clear hnd
              repeat' (first | go_values | go_skip | go_guarded | go_step | go_upon)
              go_ret
              exact ⟨rfl, HBr.out.trans (HB5.out.mono HBr.out.size)⟩
          · have hlt2' : (n : Int) ≤ i := by omega
            have hnd : us.Nodup := (nodup_at us).2 fun j y hy => HI.out j y (by have := (List.getElem?_eq_some_iff.1 hy).1; have := Hn.out; omega) hy
            have hE := HE1.out.2 ⟨hl.out, hnd⟩
            subst hE
            obtain ⟨_, hl1, hl2, hl3⟩ := HE3.out rfl
            have hright := fun W => ref_may (w := W) (p1 := p1) (p2 := p2) (p3 := p3) (k1 := k1) (k2 := k2) (k3 := k3) (by rw [Hn.out]; exact hul) hl.out hl1 hl2 hl3
            have HA3 := Lib.hid (show wr.heap[ta]? = some (.cells #[.slice p1 n1 k1, .slice p2 n2 k2, .slice p3 n3 k3] 27 (0, 0)) by
              rw [HB.out.block _ (Array.getElem?_eq_some_iff.1 HA2.out).1]; exact HA2.out)
            have HB3r := Lib.hid (HBr.out.trans (HB.out.mono HBr.out.size))
            have HT3 := Lib.hid ((HE3r.out rfl).keep HB.out)
            have Hrow4 := Lib.hid (Hrowr.out.keep HB.out)
            obtain ⟨wm, hwm⟩ : ∃ wm, wr = wm := ⟨_, rfl⟩
            rw [hwm] at HA3 HB3r HT3 Hrow4 ⊢
            have c0 : wm.cell? ⟨ta, 0, none⟩ = some (.slice p1 n1 k1) := by rw [cell_of_row wm ta 0 _ _ _ HA3.out]; rfl
            have c1 : wm.cell? ⟨ta, 1, none⟩ = some (.slice p2 n2 k2) := by rw [cell_of_row wm ta 1 _ _ _ HA3.out]; rfl
            have c2 : wm.cell? ⟨ta, 2, none⟩ = some (.slice p3 n3 k3) := by rw [cell_of_row wm ta 2 _ _ _ HA3.out]; rfl
            have HND := Lib.hid ((nodup_at us).1 hnd)
            clear hnd hl1 hl2 hl3 hwm HB HI
            repeat' (first | go_values | go_skip | go_guarded | go_step | go_upon)
            refine Calls.mono (hright _) ?_
            rintro _ wn ⟨rfl, hbn⟩
            have HA4 := Lib.hid (show wn.heap[ta]? = some (.cells #[.slice p1 n1 k1, .slice p2 n2 k2, .slice p3 n3 k3] 27 (0, 0)) by
              rw [hbn.block _ (Array.getElem?_eq_some_iff.1 HA3.out).1]; exact HA3.out)
            have HBn := Lib.hid (HB3r.out.trans (hbn.mono HB3r.out.size))
            have HT4 := Lib.hid (HT3.out.keep hbn)
            have Hrow5 := Lib.hid (Hrow4.out.keep hbn)
            clear hbn c0 c1 c2
            dsimp only
            repeat' (first | go_values | go_skip | go_guarded | go_step | go_upon)
            go_loopg [85] n (fun gk s85 wr => ∃ i : Nat, s85 = .int .i64 i ∧ i + gk = n ∧ Hid (Below wn.heap.size wn wr))
            case atStart => exact ⟨0, rfl, by omega, Lib.hid (Below.refl _ _)⟩
            case round =>
              obtain ⟨i, rfl, hi, HB⟩ := hrel
              by_cases hlt3 : i < n
              · have hlt3' : (i : Int) < n := by omega
                obtain ⟨x, hx⟩ : ∃ x, us[i]? = some x := ⟨_, List.getElem?_eq_getElem (by rw [Hn.out]; exact hlt3)⟩
                obtain ⟨b, off, rfl, hb, hcc⟩ := Hc.out.resolve_left (by omega)
                have c0 := str_cellT hcc hx
                rw [← (HBn.out.trans (HB.out.mono HBn.out.size)).cell (show b < w1.heap.size from hb)] at c0
                obtain ⟨X, hX⟩ : ∃ X : ByteArray, X = ⟨x.toArray⟩ := ⟨_, rfl⟩
                rw [← hX] at c0
                have hXl : X.data.toList = x := by rw [hX]
                have hXs : X.size = x.length := by rw [hX]; rfl
                have hx64 := small_of hl.out x (List.mem_of_getElem? hx)
                have hX64 : X.size ≤ 64 := by omega
                have hT := HT4.out.keep HB.out
                have hR := Hrow5.out.keep HB.out
                have hf0 := fun nq : WB wr => trie_num (hT.keep nq.2) (by rw [Hn.out]; exact hul) hl.out X (by omega)
                rw [hXl, HND.out i x hx] at hf0
                have hX65 : (X ++ ⟨#[120]⟩).size ≤ 1000000 := by
                  rw [ByteArray.size_append]
                  show X.size + 1 ≤ _
                  omega
                have hf2 := fun nq : WB wr => trie_num (hT.keep nq.2) (by rw [Hn.out]; exact hul) hl.out (X ++ ⟨#[120]⟩) hX65
                have ha2 := fun nq : WB wr => ref_AtB (hR.keep nq.2) (X ++ ⟨#[120]⟩)
                generalize atW us (X ++ ⟨#[120]⟩).data.toList = z2 at hf2 ha2
                have hab := (Array.getElem?_eq_some_iff.1 (show wr.heap[ta]? = some (.cells #[.slice p1 n1 k1, .slice p2 n2 k2, .slice p3 n3 k3] 27 (0, 0)) by rw [HB.out.block _ (Array.getElem?_eq_some_iff.1 HA4.out).1]; exact HA4.out)).1
                have HA5 := Lib.hid (show wr.heap[ta]? = some (.cells #[.slice p1 n1 k1, .slice p2 n2 k2, .slice p3 n3 k3] 27 (0, 0)) by rw [HB.out.block _ (Array.getElem?_eq_some_iff.1 HA4.out).1]; exact HA4.out)
                have q0 : ∀ nq : WB wr, nq.1.cell? ⟨ta, 0, none⟩ = some (.slice p1 n1 k1) := fun nq => by rw [nq.cell hab, cell_of_row wr ta 0 _ _ _ HA5.out]; rfl
                have q1 : ∀ nq : WB wr, nq.1.cell? ⟨ta, 1, none⟩ = some (.slice p2 n2 k2) := fun nq => by rw [nq.cell hab, cell_of_row wr ta 1 _ _ _ HA5.out]; rfl
                have q2 : ∀ nq : WB wr, nq.1.cell? ⟨ta, 2, none⟩ = some (.slice p3 n3 k3) := fun nq => by rw [nq.cell hab, cell_of_row wr ta 2 _ _ _ HA5.out]; rfl
                have HF0 := Lib.hid hf0
                have HF2 := Lib.hid hf2
                have HA2' := Lib.hid ha2
                cases x with
                | nil =>
                  have hX0 : X = ⟨#[]⟩ := hX
                  subst hX0
                  clear hx hcc hX hXl hXs hx64 hT hR hf0 hf2 ha2 hab
                  repeat' (go_not_at_region 23; first | go_values | go_skip | go_guarded | go_step | go_upon)
                  refine wp_region_wb (by kernel_rfl) (by kernel_rfl) wr (Below.refl _ _) ?_
                  repeat (go_big_quiet_step ((first | (go_at_call 9; with_reducible exact calls_wb (HF0.out _)) | (go_at_call 9; with_reducible exact calls_wb (HF2.out _)) | (go_at_call 10; with_reducible exact calls_wb (HA2'.out _)))))
                  refine wpQuiet_nil ?_
                  rintro _ ⟨nq, rfl⟩
                  have hnq := nq.2
                  have HB' := Lib.hid (HB.out.trans (hnq.mono HB.out.size))
                  clear hnq q0 q1 q2
                  repeat' (first | go_values | go_skip | go_guarded | go_step | go_upon)
                  go_roundg (gk - 1)
                  case measure => omega
                  case rel => exact ⟨i + 1, by go_num, by omega, HB'⟩
                | cons c x =>
                  obtain ⟨m1, hm1⟩ : ∃ m1, X.size = m1 + 1 := ⟨x.length, by rw [hXs]; rfl⟩
                  have hm1' : (X.size : Int) - 1 = (m1 : Int) := by omega
                  have hm2 : m1 < X.size := by omega
                  have hX66 : (X.extract 0 m1).size ≤ 1000000 := by simp; omega
                  have hf1 := fun nq : WB wr => trie_num (hT.keep nq.2) (by rw [Hn.out]; exact hul) hl.out (X.extract 0 m1) hX66
                  have ha1 := fun nq : WB wr => ref_AtB (hR.keep nq.2) (X.extract 0 m1)
                  generalize atW us (X.extract 0 m1).data.toList = z1 at hf1 ha1
                  have HF1 := Lib.hid hf1
                  have HA1 := Lib.hid ha1
                  have hXe : X.toList.isEmpty = false := by
                    rw [ByteArray.toList_eq, hXl]; rfl
                  have Hm1 := Lib.hid hm1
                  clear hx hcc hX hXl hXs hx64 hT hR hf0 hf2 ha2 hab hf1 ha1 hm1
                  repeat' (go_not_at_region 23; first | go_values | go_skip | go_guarded | go_step | go_upon)
                  refine wp_region_wb (by kernel_rfl) (by kernel_rfl) wr (Below.refl _ _) ?_
                  repeat (go_big_quiet_step ((first | (go_at_call 9; with_reducible exact calls_wb (HF0.out _)) | (go_at_call 9; with_reducible exact calls_wb (HF1.out _)) | (go_at_call 9; with_reducible exact calls_wb (HF2.out _)) | (go_at_call 10; with_reducible exact calls_wb (HA1.out _)) | (go_at_call 10; with_reducible exact calls_wb (HA2'.out _)))))
                  refine wpQuiet_nil ?_
                  rintro _ ⟨nq, rfl⟩
                  have hnq := nq.2
                  have HB' := Lib.hid (HB.out.trans (hnq.mono HB.out.size))
                  clear hnq q0 q1 q2
                  repeat' (first | go_values | go_skip | go_guarded | go_step | go_upon)
                  go_roundg (gk - 1)
                  case measure => omega
                  case rel => exact ⟨i + 1, by go_num, by omega, HB'⟩
              · have hlt3' : (n : Int) ≤ i := by omega
                have HA5 := Lib.hid (show wr.heap[ta]? = some (.cells #[.slice p1 n1 k1, .slice p2 n2 k2, .slice p3 n3 k3] 27 (0, 0)) by rw [HB.out.block _ (Array.getElem?_eq_some_iff.1 HA4.out).1]; exact HA4.out)
                have HB5 := Lib.hid (HBn.out.trans (HB.out.mono HBn.out.size))
                have HT5 := Lib.hid (HT4.out.keep HB.out)
                have Hrow6 := Lib.hid (Hrow5.out.keep HB.out)
                obtain ⟨wp, hwp⟩ : ∃ wp, wr = wp := ⟨_, rfl⟩
                rw [hwp] at HA5 HB5 HT5 Hrow6 ⊢
                clear hwp HB
                have hu := shortN_le s 100
                have hsh := fun w' => law_short s 100 (by decide) w'
                generalize shortN s 100 = u at hu hsh
                have hfu := trie_num HT5.out (by rw [Hn.out]; exact hul) hl.out u (by omega)
                have hau := fun W (h : Below wp.heap.size wp W) => ref_AtB (Hrow6.out.keep h) u
                generalize atW us u.data.toList = z3 at hfu hau
                have HAu := Lib.hid hau
                have c0 : wp.cell? ⟨ta, 0, none⟩ = some (.slice p1 n1 k1) := by rw [cell_of_row wp ta 0 _ _ _ HA5.out]; rfl
                have c1 : wp.cell? ⟨ta, 1, none⟩ = some (.slice p2 n2 k2) := by rw [cell_of_row wp ta 1 _ _ _ HA5.out]; rfl
                have c2 : wp.cell? ⟨ta, 2, none⟩ = some (.slice p3 n3 k3) := by rw [cell_of_row wp ta 2 _ _ _ HA5.out]; rfl
                clear hau
                repeat' (first | go_values | go_skip | go_guarded | go_step | go_upon)
                refine Calls.mono (hsh _) ?_
                rintro _ _ ⟨rfl, rfl⟩
                dsimp only
                repeat' (first | go_values | go_skip | go_guarded | go_step | go_upon)
                refine Calls.mono (hfu) ?_
                rintro _ wq ⟨rfl, hbq⟩
                dsimp only
                have hau := HAu.out wq hbq
                clear hfu hsh c0 c1 c2 HAu
                repeat' (first | go_values | go_skip | go_guarded | go_step | go_upon)
                refine Calls.mono (hau) ?_
                rintro _ wv ⟨rfl, hbv⟩
                dsimp only
                have hbv2 := hbq.trans (hbv.mono hbq.size)
                have HA6 := Lib.hid (show wv.heap[ta]? = some (.cells #[.slice p1 n1 k1, .slice p2 n2 k2, .slice p3 n3 k3] 27 (0, 0)) by rw [hbv2.block _ (Array.getElem?_eq_some_iff.1 HA5.out).1]; exact HA5.out)
                have HB6 := Lib.hid (HB5.out.trans (hbv2.mono HB5.out.size))
                have HT6 := Lib.hid (HT5.out.keep hbv2)
                have Hrow7 := Lib.hid (Hrow6.out.keep hbv2)
                have c0 : wv.cell? ⟨ta, 0, none⟩ = some (.slice p1 n1 k1) := by rw [cell_of_row wv ta 0 _ _ _ HA6.out]; rfl
                have c1 : wv.cell? ⟨ta, 1, none⟩ = some (.slice p2 n2 k2) := by rw [cell_of_row wv ta 1 _ _ _ HA6.out]; rfl
                have c2 : wv.cell? ⟨ta, 2, none⟩ = some (.slice p3 n3 k3) := by rw [cell_of_row wv ta 2 _ _ _ HA6.out]; rfl
                clear hbq hbv hbv2 hau
                by_cases hin : 0 ≤ a ∧ a ≤ u.size
                · obtain ⟨m, rfl⟩ : ∃ m : Nat, a = m := ⟨a.toNat, by omega⟩
                  have hmu : m ≤ u.size := by omega
                  have hmu' : (m : Int) ≤ u.size := by omega
                  clear hin
                  have hlo := trie_long HT6.out (by rw [Hn.out]; exact hul) hl.out u (by omega) m hmu
                  obtain ⟨r1, r2, hr⟩ : ∃ r1 r2, lngA us m (u.data.toList.drop m) (u.size - m + 1) = (r1, r2) := ⟨_, _, rfl⟩
                  rw [hr] at hlo
                  have Hr := Lib.hid hr
                  clear hr
                  repeat' (first | go_values | go_skip | go_guarded | go_step | go_upon)
                  refine Calls.mono hlo ?_
                  rintro _ wx ⟨rfl, hbx⟩
                  have HBx := Lib.hid (HB6.out.trans (hbx.mono HB6.out.size))
                  have Hrow8 := Lib.hid (Hrow7.out.keep hbx)
                  clear c0 c1 c2 hlo hbx
                  dsimp only
                  repeat' (first | go_values | go_skip | go_guarded | go_step | go_upon)
                  go_loopg [18] (u.size - m + 1) (fun gk s18 wr => ∃ t : Int, s18 = .int .i64 t ∧ t ≤ (m : Int) + gk - 1 ∧ (m : Int) + gk - 1 ≤ t ∧ gk ≤ u.size - m + 1 ∧ Hid (lngA us m (u.data.toList.drop m) gk = (r1, r2)) ∧ Hid (Below wx.heap.size wx wr))
                  case atStart => exact ⟨_, rfl, by omega, by omega, Nat.le_refl _, Hr, Lib.hid (Below.refl _ _)⟩
                  case round =>
                    obtain ⟨t, rfl, ht1, ht2, hgu, HL, HB⟩ := hrel
                    by_cases hg0 : gk = 0
                    · have hlg := HL.out
                      rw [hg0] at hlg
                      obtain ⟨rfl, rfl⟩ : -1 = r1 ∧ -1 = r2 := ⟨congrArg Prod.fst hlg, congrArg Prod.snd hlg⟩
                      have htm : t < (m : Int) := by omega
                      have htm' : ¬ (m : Int) ≤ t := by omega
                      clear hg0 hlg ht1 ht2
                      repeat' (first | go_values | go_skip | go_guarded | go_step | go_upon)
                      go_ret
                      exact ⟨rfl, HBx.out.trans (HB.out.mono HBx.out.size)⟩
                    · obtain ⟨j, hj⟩ : ∃ j, gk = j + 1 := ⟨gk - 1, by omega⟩
                      obtain ⟨tn, htn, htj⟩ : ∃ tn : Nat, t = tn ∧ tn = m + j := ⟨t.toNat, by omega, by omega⟩
                      subst htn
                      have hlg := HL.out
                      rw [hj, lngA] at hlg
                      have htu : tn ≤ u.size := by omega
                      have htu' : (tn : Int) ≤ u.size := by omega
                      have hmt : (m : Int) ≤ tn := by omega
                      have hmt' : m ≤ tn := by omega
                      have hex : (u.extract m tn).data.toList = (u.data.toList.drop m).take j := by
                        rw [ba_extract]
                        show (List.take (tn - m) (List.drop m u.data.toList)) = _
                        rw [show tn - m = j by omega]
                      have hat := ref_AtB (Hrow8.out.keep HB.out) (u.extract m tn)
                      rw [hex] at hat
                      generalize atW us ((u.data.toList.drop m).take j) = z at hlg hat
                      have Hj := Lib.hid hj
                      have Htj := Lib.hid htj
                      clear hg0 hex hj htj ht1 ht2
                      by_cases hz : z < 0
                      · rw [if_pos hz] at hlg
                        have Hlg := Lib.hid hlg
                        have hz' : ¬ 0 ≤ z := by omega
                        clear hlg
                        repeat' (first | go_values | go_skip | go_guarded | go_step | go_upon)
                        refine Calls.mono (hat) ?_
                        rintro _ wy ⟨rfl, hby⟩
                        dsimp only
                        have HBy := Lib.hid (HB.out.trans (hby.mono HB.out.size))
                        clear hat hby
                        repeat' (first | go_values | go_skip | go_guarded | go_step | go_upon)
                        go_roundg j
                        case measure => have := Hj.out; omega
                        case rel => exact ⟨(tn : Int) - 1, by go_num, by have := Htj.out; omega, by have := Htj.out; omega, by have := Hj.out; omega, Hlg, HBy⟩
                      · rw [if_neg hz] at hlg
                        obtain ⟨rfl, h2⟩ : z = r1 ∧ ((m + j : Nat) : Int) = r2 := ⟨congrArg Prod.fst hlg, congrArg Prod.snd hlg⟩
                        rw [← Htj.out] at h2
                        subst h2
                        have hz' : 0 ≤ z := by omega
                        clear hlg hz
                        repeat' (first | go_values | go_skip | go_guarded | go_step | go_upon)
                        refine Calls.mono (hat) ?_
                        rintro _ wy ⟨rfl, hby⟩
                        dsimp only
                        have HBy := Lib.hid (HB.out.trans (hby.mono HB.out.size))
                        clear hat hby
                        repeat' (first | go_values | go_skip | go_guarded | go_step | go_upon)
                        go_ret
                        exact ⟨rfl, HBx.out.trans (HBy.out.mono HBx.out.size)⟩
                · have hin' : a < 0 ∨ (u.size : Int) < a := by omega
                  have hmu : 0 ≤ u.size := Nat.zero_le _
                  rcases hin' with h0 | h0
                  · clear hin
                    have hlo := trie_long HT6.out (by rw [Hn.out]; exact hul) hl.out u (by omega) 0 hmu
                    obtain ⟨r1, r2, hr⟩ : ∃ r1 r2, lngA us 0 (u.data.toList.drop 0) (u.size - 0 + 1) = (r1, r2) := ⟨_, _, rfl⟩
                    rw [hr] at hlo
                    have Hr := Lib.hid hr
                    clear hr
                    repeat' (first | go_values | go_skip | go_guarded | go_step | go_upon)
                    refine Calls.mono hlo ?_
                    rintro _ wx ⟨rfl, hbx⟩
                    have HBx := Lib.hid (HB6.out.trans (hbx.mono HB6.out.size))
                    have Hrow8 := Lib.hid (Hrow7.out.keep hbx)
                    clear c0 c1 c2 hlo hbx
                    dsimp only
                    repeat' (first | go_values | go_skip | go_guarded | go_step | go_upon)
                    go_loopg [18] (u.size - 0 + 1) (fun gk s18 wr => ∃ t : Int, s18 = .int .i64 t ∧ t ≤ (0 : Int) + gk - 1 ∧ (0 : Int) + gk - 1 ≤ t ∧ gk ≤ u.size - 0 + 1 ∧ Hid (lngA us 0 (u.data.toList.drop 0) gk = (r1, r2)) ∧ Hid (Below wx.heap.size wx wr))
                    case atStart => exact ⟨_, rfl, by omega, by omega, Nat.le_refl _, Hr, Lib.hid (Below.refl _ _)⟩
                    case round =>
                      obtain ⟨t, rfl, ht1, ht2, hgu, HL, HB⟩ := hrel
                      by_cases hg0 : gk = 0
                      · have hlg := HL.out
                        rw [hg0] at hlg
                        obtain ⟨rfl, rfl⟩ : -1 = r1 ∧ -1 = r2 := ⟨congrArg Prod.fst hlg, congrArg Prod.snd hlg⟩
                        have htm : t < (0 : Int) := by omega
                        have htm' : ¬ (0 : Int) ≤ t := by omega
                        clear hg0 hlg ht1 ht2
                        repeat' (first | go_values | go_skip | go_guarded | go_step | go_upon)
                        go_ret
                        exact ⟨rfl, HBx.out.trans (HB.out.mono HBx.out.size)⟩
                      · obtain ⟨j, hj⟩ : ∃ j, gk = j + 1 := ⟨gk - 1, by omega⟩
                        obtain ⟨tn, htn, htj⟩ : ∃ tn : Nat, t = tn ∧ tn = 0 + j := ⟨t.toNat, by omega, by omega⟩
                        subst htn
                        have hlg := HL.out
                        rw [hj, lngA] at hlg
                        have htu : tn ≤ u.size := by omega
                        have htu' : (tn : Int) ≤ u.size := by omega
                        have hmt : (0 : Int) ≤ tn := by omega
                        have hmt' : 0 ≤ tn := by omega
                        have hex : (u.extract 0 tn).data.toList = (u.data.toList.drop 0).take j := by
                          rw [ba_extract]
                          show (List.take (tn - 0) (List.drop 0 u.data.toList)) = _
                          rw [show tn - 0 = j by omega]
                        have hat := ref_AtB (Hrow8.out.keep HB.out) (u.extract 0 tn)
                        rw [hex] at hat
                        generalize atW us ((u.data.toList.drop 0).take j) = z at hlg hat
                        have Hj := Lib.hid hj
                        have Htj := Lib.hid htj
                        clear hg0 hex hj htj ht1 ht2
                        by_cases hz : z < 0
                        · rw [if_pos hz] at hlg
                          have Hlg := Lib.hid hlg
                          have hz' : ¬ 0 ≤ z := by omega
                          clear hlg
                          repeat' (first | go_values | go_skip | go_guarded | go_step | go_upon)
                          refine Calls.mono (hat) ?_
                          rintro _ wy ⟨rfl, hby⟩
                          dsimp only
                          have HBy := Lib.hid (HB.out.trans (hby.mono HB.out.size))
                          clear hat hby
                          repeat' (first | go_values | go_skip | go_guarded | go_step | go_upon)
                          go_roundg j
                          case measure => have := Hj.out; omega
                          case rel => exact ⟨(tn : Int) - 1, by go_num, by have := Htj.out; omega, by have := Htj.out; omega, by have := Hj.out; omega, Hlg, HBy⟩
                        · rw [if_neg hz] at hlg
                          obtain ⟨rfl, h2⟩ : z = r1 ∧ ((0 + j : Nat) : Int) = r2 := ⟨congrArg Prod.fst hlg, congrArg Prod.snd hlg⟩
                          rw [← Htj.out] at h2
                          subst h2
                          have hz' : 0 ≤ z := by omega
                          clear hlg hz
                          repeat' (first | go_values | go_skip | go_guarded | go_step | go_upon)
                          refine Calls.mono (hat) ?_
                          rintro _ wy ⟨rfl, hby⟩
                          dsimp only
                          have HBy := Lib.hid (HB.out.trans (hby.mono HB.out.size))
                          clear hat hby
                          repeat' (first | go_values | go_skip | go_guarded | go_step | go_upon)
                          go_ret
                          exact ⟨rfl, HBx.out.trans (HBy.out.mono HBx.out.size)⟩
                  · have h00 : ¬ a < 0 := by omega
                    clear hin
                    have hlo := trie_long HT6.out (by rw [Hn.out]; exact hul) hl.out u (by omega) 0 hmu
                    obtain ⟨r1, r2, hr⟩ : ∃ r1 r2, lngA us 0 (u.data.toList.drop 0) (u.size - 0 + 1) = (r1, r2) := ⟨_, _, rfl⟩
                    rw [hr] at hlo
                    have Hr := Lib.hid hr
                    clear hr
                    repeat' (first | go_values | go_skip | go_guarded | go_step | go_upon)
                    refine Calls.mono hlo ?_
                    rintro _ wx ⟨rfl, hbx⟩
                    have HBx := Lib.hid (HB6.out.trans (hbx.mono HB6.out.size))
                    have Hrow8 := Lib.hid (Hrow7.out.keep hbx)
                    clear c0 c1 c2 hlo hbx
                    dsimp only
                    repeat' (first | go_values | go_skip | go_guarded | go_step | go_upon)
                    go_loopg [18] (u.size - 0 + 1) (fun gk s18 wr => ∃ t : Int, s18 = .int .i64 t ∧ t ≤ (0 : Int) + gk - 1 ∧ (0 : Int) + gk - 1 ≤ t ∧ gk ≤ u.size - 0 + 1 ∧ Hid (lngA us 0 (u.data.toList.drop 0) gk = (r1, r2)) ∧ Hid (Below wx.heap.size wx wr))
                    case atStart => exact ⟨_, rfl, by omega, by omega, Nat.le_refl _, Hr, Lib.hid (Below.refl _ _)⟩
                    case round =>
                      obtain ⟨t, rfl, ht1, ht2, hgu, HL, HB⟩ := hrel
                      by_cases hg0 : gk = 0
                      · have hlg := HL.out
                        rw [hg0] at hlg
                        obtain ⟨rfl, rfl⟩ : -1 = r1 ∧ -1 = r2 := ⟨congrArg Prod.fst hlg, congrArg Prod.snd hlg⟩
                        have htm : t < (0 : Int) := by omega
                        have htm' : ¬ (0 : Int) ≤ t := by omega
                        clear hg0 hlg ht1 ht2
                        repeat' (first | go_values | go_skip | go_guarded | go_step | go_upon)
                        go_ret
                        exact ⟨rfl, HBx.out.trans (HB.out.mono HBx.out.size)⟩
                      · obtain ⟨j, hj⟩ : ∃ j, gk = j + 1 := ⟨gk - 1, by omega⟩
                        obtain ⟨tn, htn, htj⟩ : ∃ tn : Nat, t = tn ∧ tn = 0 + j := ⟨t.toNat, by omega, by omega⟩
                        subst htn
                        have hlg := HL.out
                        rw [hj, lngA] at hlg
                        have htu : tn ≤ u.size := by omega
                        have htu' : (tn : Int) ≤ u.size := by omega
                        have hmt : (0 : Int) ≤ tn := by omega
                        have hmt' : 0 ≤ tn := by omega
                        have hex : (u.extract 0 tn).data.toList = (u.data.toList.drop 0).take j := by
                          rw [ba_extract]
                          show (List.take (tn - 0) (List.drop 0 u.data.toList)) = _
                          rw [show tn - 0 = j by omega]
                        have hat := ref_AtB (Hrow8.out.keep HB.out) (u.extract 0 tn)
                        rw [hex] at hat
                        generalize atW us ((u.data.toList.drop 0).take j) = z at hlg hat
                        have Hj := Lib.hid hj
                        have Htj := Lib.hid htj
                        clear hg0 hex hj htj ht1 ht2
                        by_cases hz : z < 0
                        · rw [if_pos hz] at hlg
                          have Hlg := Lib.hid hlg
                          have hz' : ¬ 0 ≤ z := by omega
                          clear hlg
                          repeat' (first | go_values | go_skip | go_guarded | go_step | go_upon)
                          refine Calls.mono (hat) ?_
                          rintro _ wy ⟨rfl, hby⟩
                          dsimp only
                          have HBy := Lib.hid (HB.out.trans (hby.mono HB.out.size))
                          clear hat hby
                          repeat' (first | go_values | go_skip | go_guarded | go_step | go_upon)
                          go_roundg j
                          case measure => have := Hj.out; omega
                          case rel => exact ⟨(tn : Int) - 1, by go_num, by have := Htj.out; omega, by have := Htj.out; omega, by have := Hj.out; omega, Hlg, HBy⟩
                        · rw [if_neg hz] at hlg
                          obtain ⟨rfl, h2⟩ : z = r1 ∧ ((0 + j : Nat) : Int) = r2 := ⟨congrArg Prod.fst hlg, congrArg Prod.snd hlg⟩
                          rw [← Htj.out] at h2
                          subst h2
                          have hz' : 0 ≤ z := by omega
                          clear hlg hz
                          repeat' (first | go_values | go_skip | go_guarded | go_step | go_upon)
                          refine Calls.mono (hat) ?_
                          rintro _ wy ⟨rfl, hby⟩
                          dsimp only
                          have HBy := Lib.hid (HB.out.trans (hby.mono HB.out.size))
                          clear hat hby
                          repeat' (first | go_values | go_skip | go_guarded | go_step | go_upon)
                          go_ret
                          exact ⟨rfl, HBx.out.trans (HBy.out.mono HBx.out.size)⟩
end Go.Proofs.Ytndekogkfbhabaa
